/-
  THE EXECUTOR: maps with texts for keys from which something may have been taken away: look-up, length, store, delete.

  THE EXECUTOR with further operations (ask), proved apart.

  Values that nobody looks into, as arguments of the executor.

  Ids held against each other: twenty bytes.

  WORDS FOR ALL WALKS OF THIS SEAT: a row of cells that is read; what is kept below a block.

  PURE MATHEMATICS, no program: decimal numerals. 'takeNum' is what both TakeNumber functions answer: the number whose numeral the bytes are, or why there is none.

  trestlehelp.Find and Begins: where a text stands in another one.

  Names of refs, plain: the parts between slashes, as Split gives them and as a loop over the bytes counts them.

  Names of refs: contracts of the small functions.

  Names of refs: the parts' contracts.

  Names of refs: trestleref11.Right answers rightV (V: what ValidString answers).

  Names of refs: refname.bad (the program's): which runes are bad.

  Names of refs: refname.part (the program's).

  Names of refs: refname.Right (the program's) answers rightV, as the reference does.

  Names of refs: Branch of both sides; what ValidString answers.
-/
import Derived.Test.YtdkindollljlnabGreatDoorJ5
import Derived.Test.YtdkindollljlnabGreatDoorChecked
import Derived.Test.YtdkindollljlnabGreatDoorProg
import Derived.WalkKit
import Derived.WalkLawsBesides
import Derived.WalkSpells
import Derived.Outline
import Derived.Lib.Hide
import Derived.KernelRfl
import Derived.RowKit
import Derived.Laws.Rows
import Derived.Deep.LoopGhost
import Derived.Deep.QuietTactic
import Derived.BigQuiet
import Derived.Lib.ItoaMem
import Derived.Lib.ItoaLen
import Derived.Lib.ParseIntBTie
import Derived.Lib.IndexMore
import Derived.Lib.IndexLaws
import Derived.Lib.Strings
import Derived.Lib.IndexBytes
import Derived.Lib.Split
import Derived.Lib.ValidU
import Derived.Laws.RangeString
import Derived.Laws.RangeAny
import Derived.Lib.OthersKept
import Derived.Laws.Runes
import Derived.Test.YtdkindollljlnabGreatDoorShelf
import Derived.RegionTactic
import Derived.ChangeAlike
import Derived.Deep.RegionWith
import Derived.Lib.DecodeN
import Derived.Lib.SplitLaws
import Derived.Test.YtdkindollljlnabGreatDoorValidShelf
set_option linter.unusedSectionVars false
set_option linter.unusedSimpArgs false
set_option linter.unusedVariables false
namespace Go.Proofs.YtdkindollljlnabGreatDoor
open Go Go.RowKit
variable [Known]
variable {P : Program} {w0 : Base} {env : Env} {σ : SH} {w : World}

noncomputable def sLookD (P : Program) (σ : SH) (T : TypeId) (ok : Bool) (m k : SV) : Option SR := match P.underlying T, m, k with
  | some (.map kt et), .map n, .str l => match P.underlying kt, σ.get n with
    | some .string, some (.dmap es) => match sFindStr l es 0, szero P et with
      | some (some (_, v)), some _ => some (.val (if ok then .tuple [v, .bool true] else v) σ)
      | some none, some z => some (.val (if ok then .tuple [z, .bool false] else z) σ)
      | _, _ => none
    | _, _ => none
  | _, _, _ => none
theorem sLookD_ok (h : Rel P w0 env σ w) {T : TypeId} {ok : Bool} {s t : SV} {r : SR} (hs : sLookD P σ T ok s t = some r) {x y : Operand} {ρ : Operand → Value} (h1 : den env s = some (ρ x)) (h2 : den env t = some (ρ y)) (d : Option Tmp) (ty : TypeId) (pos : String) (af : Array Edge) (g : Option (Nat × Bool)) :
    Outcome P w0 env ((execOp ρ ⟨d, .lookup T x y ok, ty, pos, af, g⟩).run P w) r := by
  unfold sLookD at hs
  split at hs
  · rename_i kt et n l hu
    simp only [den, Option.some.injEq] at h2
    split at hs
    · rename_i es hk hn
      have hck : ∀ em w, (Instr.checkKey em 10000 kt (ρ y)).run P w = .ok () w := fun em w => by rw [← h2]; exact check_str hk _ em w
      obtain ⟨b, c, he, em⟩ := den_map h1
      obtain ⟨b', c', e1, hb, ents, clock, ks, vs, g1, g2, g3, g4, g5, _⟩ := h.obj n _ hn
      rw [he] at e1; cases e1
      subst g4; subst g5
      split at hs
      · rename_i j v z hf hz; cases hs
        obtain ⟨u, e, hu2, hrun, _⟩ := sFindStr_ok es ents.toList 0 _ hf g2 g3
        have hrun := Go.MapKept.run_findKey (P := P) (w := w) hk hrun
        rw [h2] at hrun
        cases ok with
        | true => exact .same (v := .tuple #[u, .bool true]) (by simp [execOp, Instr.lookup, run_underlying hu, em, run_getObj_map g1, hck, hrun]) h (den_pair hu2 rfl)
        | false => exact .same (v := u) (by simp [execOp, Instr.lookup, run_underlying hu, em, run_getObj_map g1, hck, hrun]) h hu2
      · rename_i z hf hz; cases hs
        have hrun := sFindStr_ok es ents.toList 0 _ hf g2 g3
        simp only at hrun
        have hrun := Go.MapKept.run_findKey (P := P) (w := w) hk hrun
        rw [h2] at hrun
        obtain ⟨zv, hdz, hzr⟩ := szero_ok (env := env) hz
        cases ok with
        | true => exact .same (v := .tuple #[zv, .bool false]) (by simp [execOp, Instr.lookup, run_underlying hu, em, run_getObj_map g1, hck, hrun, hzr]) h (den_pair hdz rfl)
        | false => exact .same (v := zv) (by simp [execOp, Instr.lookup, run_underlying hu, em, run_getObj_map g1, hck, hrun, hzr]) h hdz
      · cases hs
    · cases hs
  · cases hs
noncomputable def sUpdD (P : Program) (σ : SH) (T : TypeId) (m k v : SV) : Option SR := match P.underlying T, m, k with
  | some (.map kt _), .map n, .str l => match P.underlying kt, σ.get n with
    | some .string, some (.dmap es) => match sFindStr l es 0 with
      | some none => some (.val .undef (σ.put n (some (.dmap (es ++ [(.str l, v)])))))
      | some (some (j, _)) => some (.val .undef (σ.put n (some (.dmap (es.set j (.str l, v))))))
      | none => none
    | _, _ => none
  | _, _, _ => none
theorem sUpdD_ok (h : Rel P w0 env σ w) {T : TypeId} {s t u : SV} {r : SR} (hs : sUpdD P σ T s t u = some r) {x y z : Operand} {ρ : Operand → Value} (h1 : den env s = some (ρ x)) (h2 : den env t = some (ρ y)) (h3 : den env u = some (ρ z)) (d : Option Tmp) (ty : TypeId) (pos : String) (af : Array Edge) (g : Option (Nat × Bool)) :
    Outcome P w0 env ((execOp ρ ⟨d, .mapUpdate T x y z, ty, pos, af, g⟩).run P w) r := by
  unfold sUpdD at hs
  split at hs
  · rename_i kt et n l hu
    have h2' := h2
    simp only [den, Option.some.injEq] at h2
    split at hs
    · rename_i es hk hn
      have hck : ∀ em w, (Instr.checkKey em 10000 kt (ρ y)).run P w = .ok () w := fun em w => by rw [← h2]; exact check_str hk _ em w
      obtain ⟨b, c, he, em⟩ := den_map h1
      obtain ⟨b', c', e1, hb, ents, clock, ks, vs, g1, g2, g3, g4, g5, g6, g7⟩ := h.obj n _ hn
      rw [he] at e1; cases e1
      subst g4; subst g5
      split at hs
      · rename_i hf; cases hs
        have hrun := sFindStr_ok es ents.toList 0 _ hf g2 g3
        simp only at hrun
        have hrun := Go.MapKept.run_findKey (P := P) (w := w) hk hrun
        rw [h2] at hrun
        refine ⟨env, undef, { w with heap := w.heap.setIfInBounds b (.map (ents.push { key := ρ y, val := ρ z, born := clock }) (clock + 1)) }, .inr ⟨by simp [execOp, Instr.mapUpdate, run_underlying hu, em, run_getObj_map g1, hck, hrun, run_setObj_any _ g1], rfl⟩, Env.le_refl _, h.setObj hn he g1 (fun w' hw' => ?_), rfl⟩
        refine ⟨ents.push { key := ρ y, val := ρ z, born := clock }, clock + 1, ents.toList.map (·.key) ++ [ρ y], ents.toList.map (·.val) ++ [ρ z], hw', ?_, ?_, by simp, by simp, ?_, ?_⟩
        · rw [List.map_append]
          exact denL_append g2 (denL_mk h2' rfl)
        · rw [List.map_append]
          exact denL_append g3 (denL_mk h3 rfl)
        · intro x hx
          rw [Array.toList_push, List.mem_append, List.mem_singleton] at hx
          rcases hx with hx | rfl
          · have := g6 x hx; omega
          · exact Nat.lt_succ_self _
        · rw [Array.toList_push, List.map_append, List.nodup_append]
          refine ⟨g7, by simp, fun a ha b hb => ?_⟩
          obtain ⟨x, hx, rfl⟩ := List.mem_map.1 ha
          simp at hb; subst hb
          have := g6 x hx; omega
      · rename_i j q hf; cases hs
        obtain ⟨v, e, hv, hrun, _, hget, hkey⟩ := sFindStr_ok es ents.toList 0 _ hf g2 g3
        rw [Nat.sub_zero] at hget
        have hrun := Go.MapKept.run_findKey (P := P) (w := w) hk hrun
        rw [h2] at hrun hkey
        have hgA : ents[j]? = some e := by simpa using hget
        have hst : (Instr.keyThatStays e.key (ρ y)).run P w = .ok (ρ y) w := by
          rw [hkey, ← h2]
          exact Go.MapKept.run_keyThatStays (d := .string) (k := .string (bytesOf l)) trivial
        have hjlt : j < ents.size := (Array.getElem?_eq_some_iff.1 hgA).1
        have hmod : (ents.modify j fun e => { e with key := ρ y, val := ρ z }).toList = ents.toList.set j { e with key := ρ y, val := ρ z } := by
          apply List.ext_getElem?
          intro i
          rw [Array.getElem?_toList, Array.getElem?_modify, List.getElem?_set]
          split
          · rename_i hij; subst hij
            have hej : ents[j] = e := (Array.getElem?_eq_some_iff.1 hgA).2
            simp [hgA, hjlt, hej]
          · simp
        have hbm : (ents.toList.set j { e with key := ρ y, val := ρ z }).map (·.born) = ents.toList.map (·.born) := by
          rw [List.map_set]
          apply List.ext_getElem?
          intro i
          rw [List.getElem?_set]
          split
          · rename_i hij; subst hij
            rw [if_pos (by simpa using hjlt), List.getElem?_map, hget]; rfl
          · rfl
        refine ⟨env, undef, { w with heap := w.heap.setIfInBounds b (.map (ents.modify j fun e => { e with key := ρ y, val := ρ z }) clock) }, .inr ⟨by simp [execOp, Instr.mapUpdate, run_underlying hu, em, run_getObj_map g1, hck, hrun, hgA, hst, run_setObj_any _ g1], rfl⟩, Env.le_refl _, h.setObj hn he g1 (fun w' hw' => ?_), rfl⟩
        refine ⟨_, clock, (ents.toList.map (·.key)).set j (ρ y), (ents.toList.map (·.val)).set j (ρ z), hw', ?_, ?_, by rw [hmod, List.map_set], by rw [hmod, List.map_set], ?_, by rw [hmod, hbm]; exact g7⟩
        · rw [List.map_set]
          exact denL_set g2 h2'
        · rw [List.map_set]
          exact denL_set g3 h3
        · rw [hmod]
          intro x hx
          have : x.born ∈ ents.toList.map (·.born) := hbm ▸ List.mem_map.2 ⟨x, hx, rfl⟩
          obtain ⟨y, hy, e'⟩ := List.mem_map.1 this
          rw [← e']; exact g6 y hy
      · cases hs
    · cases hs
  · cases hs
theorem denL_erase {l : List SV} : ∀ {vs : List Value} {j : Nat}, denL env l = some vs → denL env (l.eraseIdx j) = some (vs.eraseIdx j) := by
  induction l with
  | nil => intro vs j h; simp only [denL] at h; cases h; rfl
  | cons x r ih =>
    intro vs j h
    obtain ⟨a, b, e1, e2, rfl⟩ := denL_cons h
    cases j with
    | zero => exact e2
    | succ j => exact denL_mk e1 (ih e2)
theorem map_erase {α β : Type} (f : α → β) : ∀ (l : List α) (j : Nat), (l.eraseIdx j).map f = (l.map f).eraseIdx j := by
  intro l
  induction l with
  | nil => intro j; rfl
  | cons x r ih => intro j; cases j with
    | zero => rfl
    | succ j => simp [ih]
/-- What is told of a map, the weaker way. -/
def strMap (o : SO) : Option (List (SV × SV)) := match o with
  | .map es => some es
  | .dmap es => some es
  | _ => none
noncomputable def sDelD (P : Program) (σ : SH) (T : TypeId) (m k : SV) : Option SR := match P.underlying T, m, k with
  | some (.map kt _), .map n, .str l => match P.underlying kt, (σ.get n).bind strMap with
    | some .string, some es => match sFindStr l es 0 with
      | some none => some (.val (.tuple []) (σ.put n (some (.dmap es))))
      | some (some (j, _)) => some (.val (.tuple []) (σ.put n (some (.dmap (es.eraseIdx j)))))
      | none => none
    | _, _ => none
  | _, _, _ => none
theorem ORel.weak' {b c : Nat} {o : SO} {es : List (SV × SV)} (ho : strMap o = some es) (h : ORel P env w b c o) : ORel P env w b c (.dmap es) := by
  cases o with
  | map es' =>
    cases ho
    obtain ⟨ents, clock, ks, vs, h1, h2, h3, h4, h5, rfl, h7⟩ := h
    exact ⟨ents, _, ks, vs, h1, h2, h3, h4, h5, born_lt h7, born_nodup h7⟩
  | dmap es' => cases ho; exact h
  | _ => cases ho
theorem sDelD_ok (h : Rel P w0 env σ w) {T T2 : TypeId} {s t : SV} {r : SR} (hs : sDelD P σ T s t = some r) {x y : Operand} {ρ : Operand → Value} (h1 : den env s = some (ρ x)) (h2 : den env t = some (ρ y)) (d : Option Tmp) (ty : TypeId) (pos : String) (af : Array Edge) (g : Option (Nat × Bool)) :
    Outcome P w0 env ((execOp ρ ⟨d, .call { callee := .builtin .delete, args := #[x, y], argTypes := #[T, T2] }, ty, pos, af, g⟩).run P w) r := by
  unfold sDelD at hs
  split at hs
  · rename_i kt et n l hu
    have h2' := h2
    simp only [den, Option.some.injEq] at h2
    split at hs
    · rename_i es hk hbnd
      obtain ⟨o, hn, ho⟩ := Option.bind_eq_some_iff.1 hbnd
      have hck : ∀ em w, (Instr.checkKey em 10000 kt (ρ y)).run P w = .ok () w := fun em w => by rw [← h2]; exact check_str hk _ em w
      obtain ⟨b, c, he, em⟩ := den_map h1
      obtain ⟨b', c', e1, hb, hO⟩ := h.obj n _ hn
      rw [he] at e1; cases e1
      obtain ⟨ents, clock, ks, vs, g1, g2, g3, g4, g5, g6, g7⟩ := hO.weak' ho
      subst g4; subst g5
      split at hs
      · rename_i hf; cases hs
        have hrun := sFindStr_ok es ents.toList 0 _ hf g2 g3
        simp only at hrun
        have hrun := Go.MapKept.run_findKey (P := P) (w := w) hk hrun
        rw [h2] at hrun
        exact ⟨env, .tuple #[], { w with heap := w.heap.setIfInBounds b (.map ents clock) }, .inl (by simp [execOp, resolve, invoke, builtin, Builtin.delete_, run_underlying hu, em, run_getObj_map g1, hck, hrun, run_setObj_any _ g1]), Env.le_refl _, h.setObj hn he g1 (fun w' hw' => ⟨ents, clock, _, _, hw', g2, g3, rfl, rfl, g6, g7⟩), rfl⟩
      · rename_i j q hf; cases hs
        obtain ⟨v, e, hv, hrun, _, hget, hkey⟩ := sFindStr_ok es ents.toList 0 _ hf g2 g3
        rw [Nat.sub_zero] at hget
        have hrun := Go.MapKept.run_findKey (P := P) (w := w) hk hrun
        rw [h2] at hrun
        have hjlt : j < ents.size := by
          have := (List.getElem?_eq_some_iff.1 hget).1
          simpa using this
        have hel : (ents.eraseIdxIfInBounds j).toList = ents.toList.eraseIdx j := by
          rw [Array.eraseIdxIfInBounds, dif_pos hjlt, Array.toList_eraseIdx]
        refine ⟨env, .tuple #[], { w with heap := w.heap.setIfInBounds b (.map (ents.eraseIdxIfInBounds j) clock) }, .inl (by simp [execOp, resolve, invoke, builtin, Builtin.delete_, run_underlying hu, em, run_getObj_map g1, hck, hrun, run_setObj_any _ g1]), Env.le_refl _, h.setObj hn he g1 (fun w' hw' => ?_), rfl⟩
        refine ⟨_, clock, (ents.toList.map (·.key)).eraseIdx j, (ents.toList.map (·.val)).eraseIdx j, hw', ?_, ?_, by rw [hel, map_erase], by rw [hel, map_erase], ?_, ?_⟩
        · rw [map_erase]; exact denL_erase g2
        · rw [map_erase]; exact denL_erase g3
        · rw [hel]; intro x hx; exact g6 x ((List.eraseIdx_sublist _ _).subset hx)
        · rw [hel, map_erase]; exact List.Nodup.sublist (List.eraseIdx_sublist _ _) g7
      · cases hs
    · cases hs
  · cases hs
noncomputable def sLenD (P : Program) (σ : SH) (T : TypeId) (s : SV) : Option SV := match P.underlying T, s with
  | some (.map _ _), .map n => match σ.get n with
    | some (.dmap es) => some (.int .i64 (lenR es))
    | _ => none
  | _, _ => none
theorem sLenD_ok (h : Rel P w0 env σ w) {T ty : TypeId} {s t : SV} {v : Value} (hs : sLenD P σ T s = some t) (hd : den env s = some v) : ∃ u, den env t = some u ∧ (Builtin.len_ #[T] ty #[v]).run P w = .ok u w := by
  unfold sLenD at hs
  split at hs
  · rename_i kt et n hu
    split at hs
    · rename_i es hn; cases hs
      obtain ⟨b, c, he, rfl⟩ := den_map hd
      obtain ⟨b', c', e1, hb, ents, clock, ks, vs, g1, g2, g3, g4, g5, g6, g7⟩ := h.obj n _ hn
      rw [he] at e1; cases e1
      have hl : es.length = ents.size := by
        have := denL_length g2
        rw [List.length_map] at this
        rw [← this, ← g4, List.length_map, Array.length_toList]
      refine ⟨_, rfl, ?_⟩
      rw [lenR_eq, hl]
      simp [Builtin.len_, underlying, hu, goInt, run_getObj_map g1]
    · cases hs
  · cases hs
/-- These operations. -/
noncomputable def askD (P : Program) (st : Row) (o : Oper) (σ : SH) : Option SR := match o.op with
  | .lookup T m k ok => match evalS st m, evalS st k with
    | some a, some b => sLookD P σ T ok a b
    | _, _ => none
  | .mapUpdate T m k v => match evalS st m, evalS st k, evalS st v with
    | some a, some b, some c => sUpdD P σ T a b c
    | _, _, _ => none
  | .call c => match c.callee, c.args.toList, c.argTypes.toList with
    | .builtin .delete, [x, y], [T, _] => match evalS st x, evalS st y with
      | some a, some b => sDelD P σ T a b
      | _, _ => none
    | .builtin .len, [x], [T] => match evalS st x with
      | some a => match sLenD P σ T a with
        | some t => some (.val t σ)
        | none => none
      | none => none
    | _, _, _ => none
  | _ => none
theorem askD_ok : OpSound P w0 (askD P) := by
  intro st o σ r env a w hs ho h hf
  obtain ⟨d, op, ty, pos, af, g⟩ := o
  have E : ∀ {x : Operand} {s : SV}, evalS st x = some s → den env s = some (a.eval x) := fun hx => evalS_den hf.tmps hx
  unfold askD at hs
  cases op <;> simp only at hs <;> try (cases hs; done)
  case lookup T m k ok =>
    split at hs
    · rename_i x y hx hy; exact sLookD_ok h hs (E hx) (E hy) d ty pos af g
    · cases hs
  case mapUpdate T m k v =>
    split at hs
    · rename_i x y z hx hy hz; exact sUpdD_ok h hs (E hx) (E hy) (E hz) d ty pos af g
    · cases hs
  case call c =>
    obtain ⟨callee, args, tys⟩ := c
    simp only at hs
    split at hs
    · rename_i x y T T2 ha ht
      have e1 : args = #[x, y] := by cases args; simp_all
      have e2 : tys = #[T, T2] := by cases tys; simp_all
      subst e1; subst e2
      split at hs
      · rename_i s t hx hy; exact sDelD_ok h hs (E hx) (E hy) d ty pos af g
      · cases hs
    · rename_i x T ha ht
      have e1 : args = #[x] := by cases args; simp_all
      have e2 : tys = #[T] := by cases tys; simp_all
      subst e1; subst e2
      split at hs
      · rename_i s hx
        split at hs
        · rename_i t hl; cases hs
          obtain ⟨u, hu, hrun⟩ := sLenD_ok (ty := ty) h hl (E hx)
          refine .same (v := u) ?_ h hu
          simp [execOp, resolve, invoke, builtin, hrun]
        · cases hs
      · cases hs
    · cases hs
theorem askD_cong : OpCong (askD P) := by
  intro ops st st' o σ h
  have E : ∀ x ∈ o.op.operands, evalS st x = evalS st' x := fun x hx => evalS_cong fun t ht => h t (by
    subst ht
    exact List.mem_append_left _ (List.mem_filterMap.2 ⟨.tmp t, by simpa using hx, rfl⟩))
  obtain ⟨d, op, ty, pos, af, g⟩ := o
  simp only at E
  unfold askD
  cases op <;> simp only
  case lookup T m k ok => rw [E m (by simp [Op.operands]), E k (by simp [Op.operands])]
  case mapUpdate T m k v => rw [E m (by simp [Op.operands]), E k (by simp [Op.operands]), E v (by simp [Op.operands])]
  case call c =>
    obtain ⟨callee, args, tys⟩ := c
    have key : ∀ x ∈ args.toList, evalS st x = evalS st' x := fun x hx => E x (by simp only [Op.operands, Call.operands]; cases callee <;> simp at hx ⊢ <;> simp [hx])
    simp only
    cases callee with
    | builtin bi =>
      cases bi <;> try rfl
      all_goals
        rcases ha : args.toList with _ | ⟨x, _ | ⟨y, _ | ⟨z, r⟩⟩⟩ <;> rcases ht : tys.toList with _ | ⟨T, _ | ⟨T2, _ | ⟨T3, r2⟩⟩⟩ <;> try rfl
        all_goals simp only [key x (by rw [ha]; simp)]
        all_goals try rw [key y (by rw [ha]; simp)]
    | _ => rfl
theorem askD_still (st : Row) (o : Oper) (σ : SH) (s : SV) (σ' : SH) (hs : stillOp P o.op = true) (h : askD P st o σ = some (.val s σ')) : σ' = σ := by
  obtain ⟨d, op, ty, pos, af, g⟩ := o
  unfold askD at h
  cases op <;> simp only at h <;> try (cases h; done)
  case lookup T m k ok =>
    unfold sLookD at h
    (repeat' split at h) <;> first | (cases h; done) | (cases h; rfl)
  case mapUpdate => simp [stillOp] at hs
  case call c =>
    obtain ⟨callee, args, tys⟩ := c
    simp only at h
    split at h
    · simp [stillOp] at hs
    · (repeat' split at h) <;> first | (cases h; done) | (cases h; rfl)
    · cases h
theorem askD_pure (st : Row) (o : Oper) (σ : SH) (hs : pureOp o.op = true) : askD P st o σ = none := by
  obtain ⟨d, op, ty, pos, af, g⟩ := o
  unfold askD
  cases op <;> simp [pureOp] at hs ⊢
end Go.Proofs.YtdkindollljlnabGreatDoor

namespace Go.Proofs.YtdkindollljlnabGreatDoor
open Go Go.RowKit
variable [Known]
variable {P : Program} {w0 : Base}

/-- Operations that are sound, and told by oq. -/
structure AskOk (P : Program) (ask : OpF) (oq : Op → Bool) : Prop where
  sound : ∀ w0, OpSound P w0 ask
  cong : OpCong ask
  still : ∀ st o σ s σ', stillOp P o.op = true → ask st o σ = some (.val s σ') → σ' = σ
  told : ∀ st o σ r, ask st o σ = some r → oq o.op = true
noncomputable def opK (P : Program) (ask : OpF) : OpF := fun st o σ => @Option.rec SR (fun _ => Option SR) (@Option.rec SR (fun _ => Option SR) (ask st o σ) (fun r => some r) (askD P st o σ)) (fun r => some r) (opF P st o σ)
theorem opK_some {ask : OpF} {st : Row} {o : Oper} {σ : SH} {r : SR} (h : sOpN P st o σ = some r) : opK P ask st o σ = some r := by
  unfold opK; rw [opF_eq, h]
theorem opK_mid {ask : OpF} {st : Row} {o : Oper} {σ : SH} {r : SR} (h : sOpN P st o σ = none) (h2 : askD P st o σ = some r) : opK P ask st o σ = some r := by
  unfold opK; rw [opF_eq, h, h2]
theorem opK_none {ask : OpF} {st : Row} {o : Oper} {σ : SH} (h : sOpN P st o σ = none) (h2 : askD P st o σ = none) : opK P ask st o σ = ask st o σ := by
  unfold opK; rw [opF_eq, h, h2]
theorem opK_or {ask : OpF} {st : Row} {o : Oper} {σ : SH} {r : SR} (h : opK P ask st o σ = some r) : sOpN P st o σ = some r ∨ askD P st o σ = some r ∨ (sOpN P st o σ = none ∧ ask st o σ = some r) := by
  cases hx : sOpN P st o σ with
  | some y => rw [opK_some hx] at h; exact .inl h
  | none =>
    cases hy : askD P st o σ with
    | some y => rw [opK_mid hx hy] at h; exact .inr (.inl h)
    | none => rw [opK_none hx hy] at h; exact .inr (.inr ⟨rfl, h⟩)
section
variable {ask : OpF} {oq : Op → Bool} (hA : AskOk P ask oq)
include hA
theorem opK_ok : OpSound P w0 (opK P ask) := by
  intro st o σ r env a w h ho hr hf
  rcases opK_or h with h | h | ⟨_, h⟩
  · exact sOpN_ok st o σ r env a w h ho hr hf
  · exact askD_ok st o σ r env a w h ho hr hf
  · exact hA.sound w0 st o σ r env a w h ho hr hf
theorem opK_cong : OpCong (opK P ask) := by
  intro ops st st' o σ h
  have e1 := sOpN_cong (P := P) ops st st' o σ h
  have e2 := askD_cong (P := P) ops st st' o σ h
  have e3 := hA.cong ops st st' o σ h
  cases hx : sOpN P st o σ with
  | some y => rw [opK_some hx, opK_some (e1 ▸ hx)]
  | none =>
    cases hy : askD P st o σ with
    | some y => rw [opK_mid hx hy, opK_mid (e1 ▸ hx) (e2 ▸ hy)]
    | none => rw [opK_none hx hy, opK_none (e1 ▸ hx) (e2 ▸ hy), e3]
theorem opK_still : ∀ (st : Row) (o : Oper) (σ : SH) (s : SV) (σ' : SH), stillOp P o.op = true → opK P ask st o σ = some (.val s σ') → σ' = σ := by
  intro st o σ s σ' hs h
  rcases opK_or h with h | h | ⟨_, h⟩
  · exact sOpN_still st o σ s σ' hs h
  · exact askD_still st o σ s σ' hs h
  · exact hA.still st o σ s σ' hs h
noncomputable def pureK (oq : Op → Bool) (o : Op) : Bool := pureOp o && !oq o
theorem opK_pure : ∀ (st : Row) (o : Oper) (σ : SH) (s : SV) (σ' σ1 : SH), pureK oq o.op = true → opK P ask st o σ = some (.val s σ') → ∃ σ2, opK P ask st o σ1 = some (.val s σ2) := by
  intro st o σ s σ' σ1 hs h
  unfold pureK at hs
  rw [Bool.and_eq_true] at hs
  rcases opK_or h with h | h | ⟨_, h2⟩
  · obtain ⟨σ2, h2⟩ := sOpN_pure st o σ s σ' σ1 hs.1 h
    exact ⟨σ2, opK_some h2⟩
  · rw [askD_pure st o σ hs.1] at h; cases h
  · rw [hA.told _ _ _ _ h2] at hs; simp at hs
end
noncomputable def regK (P : Program) (ask : OpF) (oq : Op → Bool) (call : CallF) : RegF := regDrawE P (stillOp P) (pureK oq) (opK P ask) call
noncomputable def execK (P : Program) (ask : OpF) (oq : Op → Bool) (summ : CallF) (d : Nat) : CallF := xCall P (opK P ask) summ (fun call => regK P ask oq call) d
theorem regK_ok (hm : P.follows .mixedOrders = true) {ask : OpF} {oq : Op → Bool} (hA : AskOk P ask oq) {call : CallF} (hcall : ∀ b, CallSound P b call) : RegSound P w0 (regK P ask oq call) :=
  regDrawE_ok hm (fun _ => opK_ok hA) (opK_cong hA) (opK_still hA) (opK_pure hA) hcall
theorem execK_ok (hm : P.follows .mixedOrders = true) {ask : OpF} {oq : Op → Bool} (hA : AskOk P ask oq) {summ : CallF} (hsumm : ∀ b, CallSound P b summ) (d : Nat) (b : Base) : CallSound P b (execK P ask oq summ d) :=
  xCall_ok (fun _ => opK_ok hA) hsumm (fun _ hc _ => regK_ok hm hA hc) d b
end Go.Proofs.YtdkindollljlnabGreatDoor

namespace Go.Proofs.YtdkindollljlnabGreatDoor
open Go Go.RowKit

/-- n values from the i-th on. -/
def opqFrom (i n : Nat) : List SV := (List.range' i n).map SV.opq
theorem opqMap_den (env : Env) : ∀ ks : List Nat, denL env (ks.map SV.opq) = some (ks.map env.given) := by
  intro ks
  induction ks with
  | nil => rfl
  | cons k r ih => exact denL_mk (by simp only [den]) ih
theorem opqFrom_den (A B C : List Value) (d : Value) {i n : Nat} (hi : A.length = i) (hn : B.length = n) : denL (env0 fun i => (A ++ (B ++ C)).getD i d) (opqFrom i n) = some B := by
  unfold opqFrom
  rw [opqMap_den]
  congr 1
  subst hn; subst hi
  apply List.ext_getElem
  · simp
  · intro i h1 h2
    simp only [List.getElem_map, List.getElem_range', env0, Nat.one_mul]
    rw [List.getD_eq_getElem?_getD, List.getElem?_append_right (by omega), show A.length + i - A.length = i by omega, List.getElem?_append_left h2, List.getElem?_eq_getElem h2]
    rfl
theorem given_ones (l : List Value) (h : ∀ v ∈ l, v.oneCell' = true) : (env0 fun i => l.getD i (.bool true)).ones := fun i => by
  show (l.getD i (.bool true)).oneCell' = true
  rw [List.getD_eq_getElem?_getD]
  cases hg : l[i]? with
  | none => rfl
  | some v => exact h v (List.mem_of_getElem? hg)
/-- A text of which is known whether it is longer than c. -/
theorem text_den (A C : List Value) (s : ByteArray) (d : Value) {i : Nat} (hi : A.length = i) (c r : Nat) (h : decide (c < s.size) = decide (r = 1)) : den (env0 fun i => (A ++ (Value.string s :: C)).getD i d) (.num i [(0, 0), (c, r)] false) = some (.string s) := by
  subst hi
  simp only [den, env0]
  rw [List.getD_eq_getElem?_getD, List.getElem?_append_right (Nat.le_refl _), Nat.sub_self]
  simp only [List.getElem?_cons_zero, Option.getD_some, numOf', lensOk, h, BEq.rfl, Bool.and_self, if_true, Bool.false_eq_true, if_false]
end Go.Proofs.YtdkindollljlnabGreatDoor

namespace Go.Proofs.YtdkindollljlnabGreatDoor
open Go Go.RowKit

/-- Twenty bytes, as an id's cells. -/
def idV (ns : List Nat) : List Value := ns.map fun (n : Nat) => .int .u8 (n : Int)
def litU (n : Nat) : Lit := .int .u8 (n : Int)
def Id20 (ns : List Nat) : Prop := ns.length = 20 ∧ ∀ n ∈ ns, n < 256
theorem mapM_range {β : Type} (f : Nat → Option β) : ∀ (l : List β) (s : Nat), (∀ (i : Nat) (h : i < l.length), f (s + i) = some l[i]) → (List.range' s l.length).mapM f = some l := by
  intro l
  induction l with
  | nil => intro s _; rfl
  | cons x r ih =>
    intro s h
    rw [List.length_cons, List.range'_succ]
    have h0 : f s = some x := h 0 (by simp)
    have h1 := ih (s + 1) fun i hi => by
      have := h (i + 1) (by simp; omega)
      rw [show s + 1 + i = s + (i + 1) by omega]; exact this
    simp [List.mapM_cons, h0, h1]
theorem flat1 : ∀ ns : List Nat, (ns.map fun (n : Nat) => [litU n]).flatten = ns.map litU := by
  intro ns
  induction ns with
  | nil => rfl
  | cons x r ih => simp; exact ih
theorem id_lits {ns : List Nat} (h : Id20 ns) : Tryz.prog.keyLits 8 23 (idV ns) = some (ns.map litU) := by
  have e8 : Tryz.prog.cellsOf 5 = 1 := by kernel_rfl
  have e20 : Tryz.prog.cellsOf 23 = 20 := by kernel_rfl
  have hl : (idV ns).length = 20 := by unfold idV; rw [List.length_map]; exact h.1
  have hm : (List.range 20).mapM (fun i => Tryz.prog.keyLits 7 5 (((idV ns).drop (i * Tryz.prog.cellsOf 5)).take (Tryz.prog.cellsOf 5))) = some (ns.map fun (n : Nat) => [litU n]) := by
    have := mapM_range (fun i => Tryz.prog.keyLits 7 5 (((idV ns).drop (i * Tryz.prog.cellsOf 5)).take (Tryz.prog.cellsOf 5))) (ns.map fun (n : Nat) => [litU n]) 0 (fun i hi => by
      rw [List.length_map, h.1] at hi
      have hn : ns[i]'(by rw [h.1]; exact hi) < 256 := h.2 _ (List.getElem_mem _)
      rw [Nat.zero_add, e8, Nat.mul_one, List.drop_eq_getElem_cons (by omega), List.take_succ_cons, List.take_zero]
      unfold Program.keyLits
      simp only [Tryz.underlying5, idV, List.getElem_map]
      have hw : (Lit.int .u8 ((ns[i]'(by rw [h.1]; exact hi) : Nat) : Int)).wf = true := by
        simp [Lit.wf, IntKind.min, IntKind.max, IntKind.signed, IntKind.bits]
        omega
      simp [hw, litU])
    rw [List.length_map, h.1] at this
    rw [List.range_eq_range']; exact this
  unfold Program.keyLits
  simp only [Tryz.underlying23, hl, e20, if_true, hm, Option.map_some]
  exact congrArg some (flat1 ns)
theorem id_formed {ns : List Nat} (h : Id20 ns) : (Value.agg (idV ns).toArray).formed Tryz.prog 23 = true := by
  have hl : (idV ns).length = 20 := by unfold idV; rw [List.length_map]; exact h.1
  simp only [Value.formed, Tryz.underlying23]
  simp [hl, show Tryz.prog.cellsOf 23 = 20 by kernel_rfl]
theorem id_key : Tryz.prog.keyTypeAt 8 23 = true := by kernel_rfl
theorem litU_inj {x y : List Nat} : x.map litU = y.map litU ↔ x = y := List.map_inj_right (fun a b e => by
  unfold litU at e
  injection e with _ e
  omega)
theorem id_cells (x : List Nat) : (Value.agg (idV x).toArray).cells.toList = idV x := by simp [Value.cells]
theorem id_eqAt : EqAt Tryz.prog 10000 23 := run_equalIn_deep 9992 8 23 id_key
theorem id_eq {x y : List Nat} (hx : Id20 x) (hy : Id20 y) (w : World) : (Op.equalIn 10000 23 (.agg (idV x).toArray) (.agg (idV y).toArray)).run Tryz.prog w = .ok (decide (x = y)) w := by
  have lx := id_lits hx
  have ly := id_lits hy
  rw [← id_cells x] at lx
  rw [← id_cells y] at ly
  obtain ⟨r, hr, hiff⟩ := id_eqAt w 8 8 _ _ _ _ (id_formed hx) (id_formed hy) lx ly
  have e : r = decide (x = y) := by rw [Bool.eq_iff_iff, hiff, litU_inj, decide_eq_true_eq]
  rw [e] at hr
  exact hr
set_option maxRecDepth 100000 in
theorem id_check {x : List Nat} (hx : Id20 x) (em : Bool) (w : World) : (Instr.checkKey em 10000 23 (.agg (idV x).toArray)).run Tryz.prog w = .ok () w :=
  run_checkKey_deep em 9992 8 23 id_key w 8 (.agg (idV x).toArray) (x.map litU) (id_formed hx) (id_lits hx)
theorem id_find {x : List Nat} (hx : Id20 x) (w : World) : ∀ (es : List MapEntry) (i : Nat), (∀ e ∈ es, ∃ y, Id20 y ∧ x ≠ y ∧ e.key = .agg (idV y).toArray) → (Instr.findAsking 23 (.agg (idV x).toArray) es i).run Tryz.prog w = .ok none w := by
  intro es
  induction es with
  | nil => intro i _; simp [Instr.findAsking]
  | cons e r ih =>
    intro i h
    obtain ⟨y, hy, hne, ek⟩ := h e List.mem_cons_self
    have hq := id_eq hx hy w
    rw [decide_eq_false hne, ← ek] at hq
    have hq : (Op.equal 23 (.agg (idV x).toArray) e.key).run Tryz.prog w = .ok false w := hq
    have := ih (i + 1) fun e' he' => h e' (List.mem_cons_of_mem _ he')
    simpa [Instr.findAsking, hq] using this
theorem id_findKey {x : List Nat} (hx : Id20 x) (w : World) (es : List MapEntry) (h : ∀ e ∈ es, ∃ y, Id20 y ∧ x ≠ y ∧ e.key = .agg (idV y).toArray) : (Instr.findKey 23 (.agg (idV x).toArray) es).run Tryz.prog w = .ok none w := by
  rw [run_findKey_eq w (by rw [Tryz.underlying23]) _ es]
  exact id_find hx w es 0 h
theorem u8s_den (env : Env) : ∀ ns : List Nat, denL env (u8s ns) = some (idV ns) := by
  intro ns
  have e : ∀ l : List Nat, u8s l = l.map fun n => SV.int .u8 (Int.ofNat n) := by
    intro l; unfold u8s; exact mapR_eq _ _
  rw [e]
  unfold idV
  induction ns with
  | nil => simp only [List.map_nil, denL]
  | cons x r ih => exact denL_mk (by simp only [den]; rfl) ih
end Go.Proofs.YtdkindollljlnabGreatDoor

namespace Go.Proofs.YtdkindollljlnabGreatDoor
open Go.RowKit

/-- Cells that are read: from an address on they are these. -/
def RowAt (w : World) (A : Option Addr) (cs : List Value) : Prop :=
  cs = [] ∨ ∃ b off, A = some ⟨b, off, none⟩ ∧ ∀ j (h : j < cs.length), w.cell? ⟨b, off + j, none⟩ = some cs[j]
theorem RowAt.below {w w1 : World} {A : Option Addr} {cs : List Value} (h : RowAt w A cs) (hb : Below w.heap.size w w1) : RowAt w1 A cs := by
  rcases h with h | ⟨b, off, e, h⟩
  · exact .inl h
  · exact .inr ⟨b, off, e, fun j hj => (hb.cell (World.block_lt_of_cell? w _ (h j hj))).trans (h j hj)⟩
theorem RowAt.at {w : World} {A : Option Addr} {cs : List Value} (h : RowAt w A cs) (h0 : 0 < cs.length) : ∃ b off, A = some ⟨b, off, none⟩ ∧ b < w.heap.size ∧ ∀ j (h : j < cs.length), w.cell? ⟨b, off + j, none⟩ = some cs[j] := by
  rcases h with h | ⟨b, off, e, h⟩
  · subst h; simp at h0
  · exact ⟨b, off, e, World.block_lt_of_cell? w _ (h 0 h0), h⟩
theorem below_alloc {w W : World} (h : Below w.heap.size w W) (o : Obj) : Below w.heap.size w (W.alloc o) := h.alloc h.size o
theorem below_drew {B : Nat} {w W : World} (h : Below B w W) : Below B w W.drew := ⟨h.os, h.tape, h.output, h.size, h.block⟩
theorem below_then {B : Nat} {w w1 w2 : World} (h : Below B w w1) (hB : B ≤ w1.heap.size) (k : Below w1.heap.size w1 w2) : Below B w w2 :=
  h.trans ⟨k.os, k.tape, k.output, k.size, fun i hi => k.block i (Nat.lt_of_lt_of_le hi hB)⟩
theorem below_call {w W w1 : World} (h : Below w.heap.size w W) (k : Below W.heap.size W w1) : Below w.heap.size w w1 := below_then h h.size k
theorem below_drewS {w W : World} (h : Below w.heap.size w W) : Below w.heap.size w W.drew := below_drew h
theorem below_drewNS {w W : World} (h : Below w.heap.size w W) (n : Nat) : Below w.heap.size w (W.drewN n) := ⟨h.os, h.tape, h.output, h.size, h.block⟩
theorem bcell {W w1 : World} (hb : Below W.heap.size W w1) : (∀ b o, b < W.heap.size → w1.cell? ⟨b, o, none⟩ = W.cell? ⟨b, o, none⟩) ∧ (∀ b o, b < W.heap.size → w1.frozen? ⟨b, o, none⟩ = W.frozen? ⟨b, o, none⟩) :=
  ⟨fun b o h => hb.cell (p := ⟨b, o, none⟩) h, fun b o h => hb.frozen (p := ⟨b, o, none⟩) h⟩
theorem ret_eq {v v' : Value} (h : v = v') : Ending.returned v = .returned v' := by rw [h]

/-- The cells of pairs of texts (api.Extra, api.Copy). -/
def pairCells (l : List (ByteArray × ByteArray)) : List Value := l.flatMap fun x => [.string x.1, .string x.2]
theorem pairCells_length (l : List (ByteArray × ByteArray)) : (pairCells l).length = 2 * l.length := by
  induction l with
  | nil => rfl
  | cons x r ih => simp only [pairCells, List.flatMap_cons, List.length_append, List.length_cons, List.length_nil] at *; omega
theorem pairCells_at (l : List (ByteArray × ByteArray)) : ∀ k (h : k < l.length), (pairCells l)[k * 2]? = some (.string l[k].1) ∧ (pairCells l)[k * 2 + 1]? = some (.string l[k].2) := by
  induction l with
  | nil => intro k h; simp at h
  | cons x r ih =>
    intro k h
    cases k with
    | zero => exact ⟨rfl, rfl⟩
    | succ k =>
      have := ih k (by simpa using h)
      simpa [pairCells, Nat.add_mul] using this
/-- Element k of such a row, in a later world. -/
theorem RowAt.pair {w wr : World} {b off : Nat} {l : List (ByteArray × ByteArray)} (hb : Below w.heap.size w wr) (hbl : b < w.heap.size)
    (hc : ∀ j (h : j < (pairCells l).length), w.cell? ⟨b, off + j, none⟩ = some (pairCells l)[j]) (k : Nat) (hk : k < l.length) :
    wr.cell? ⟨b, off + k * 2, none⟩ = some (.string l[k].1) ∧ wr.cell? ⟨b, off + k * 2 + 1, none⟩ = some (.string l[k].2) := by
  have hm := pairCells_length l
  have e1 := hc (k * 2) (by omega)
  have e2 := hc (k * 2 + 1) (by omega)
  rw [(List.getElem_eq_iff (by omega)).2 (pairCells_at l k hk).1] at e1
  rw [(List.getElem_eq_iff (by omega)).2 (pairCells_at l k hk).2] at e2
  exact ⟨(hb.cell hbl).trans e1, (hb.cell hbl).trans e2⟩
end Go.Proofs.YtdkindollljlnabGreatDoor

namespace Go.Proofs.YtdkindollljlnabGreatDoor
open Go.Lib

/-- The value of a list of digits, the first ahead, behind what was read before. -/
def digVal (acc : Nat) (l : List UInt8) : Nat := l.foldl (fun a c => 10 * a + (c.toNat - 48)) acc
theorem digVal_nil (acc : Nat) : digVal acc [] = acc := rfl
theorem digVal_cons (acc : Nat) (c : UInt8) (r : List UInt8) : digVal acc (c :: r) = digVal (10 * acc + (c.toNat - 48)) r := by unfold digVal; rw [List.foldl_cons]
def isDig (c : UInt8) : Bool := decide (48 ≤ c.toNat ∧ c.toNat ≤ 57)

theorem digVal_append (a b : List UInt8) (acc : Nat) : digVal acc (a ++ b) = digVal (digVal acc a) b := List.foldl_append

theorem dig_toNat (d : Nat) (h : d < 10) : (UInt8.ofNat (48 + d)).toNat = 48 + d := by
  simp only [UInt8.toNat_ofNat', Nat.reducePow]; omega

theorem dig_isDig (d : Nat) (h : d < 10) : isDig (UInt8.ofNat (48 + d)) = true := by
  unfold isDig; rw [dig_toNat d h]; simp; omega

theorem decDigits_small {u : Nat} (h : u < 10) : decDigits u = [UInt8.ofNat (48 + u)] := by rw [decDigits, dif_pos h]
theorem decDigits_big {u : Nat} (h : ¬ u < 10) : decDigits u = decDigits (u / 10) ++ [UInt8.ofNat (48 + u % 10)] := by rw [decDigits, dif_neg h]

theorem decDigits_isDig (u : Nat) : ∀ c ∈ decDigits u, isDig c = true := by
  induction u using Nat.strongRecOn with
  | ind u ih =>
    by_cases h : u < 10
    · rw [decDigits_small h]; intro c hc; simp only [List.mem_singleton] at hc; subst hc; exact dig_isDig u h
    · rw [decDigits_big h]; intro c hc
      rcases List.mem_append.1 hc with hc | hc
      · exact ih (u / 10) (by omega) c hc
      · simp only [List.mem_singleton] at hc; subst hc; exact dig_isDig _ (by omega)

theorem digVal_decDigits (u : Nat) : digVal 0 (decDigits u) = u := by
  induction u using Nat.strongRecOn with
  | ind u ih =>
    by_cases h : u < 10
    · rw [decDigits_small h]; simp only [digVal_cons, digVal_nil, dig_toNat u h]; omega
    · rw [decDigits_big h, digVal_append, ih (u / 10) (by omega)]
      simp only [digVal_cons, digVal_nil, dig_toNat (u % 10) (by omega)]; omega

theorem decDigits_ne_nil (u : Nat) : decDigits u ≠ [] := by
  by_cases h : u < 10
  · rw [decDigits_small h]; simp
  · rw [decDigits_big h]; simp

/-- The first digit of what has more than one is not 0. -/
theorem decDigits_head (u : Nat) (h : ¬ u < 10) : ∃ c r, decDigits u = c :: r ∧ c.toNat ≠ 48 ∧ r ≠ [] := by
  induction u using Nat.strongRecOn with
  | ind u ih =>
    rw [decDigits_big h]
    by_cases h2 : u / 10 < 10
    · rw [decDigits_small h2]
      exact ⟨_, _, rfl, by rw [dig_toNat _ h2]; omega, by simp⟩
    · obtain ⟨c, r, e, h1, _⟩ := ih (u / 10) (by omega) h2
      rw [e]
      exact ⟨c, r ++ _, rfl, h1, by simp⟩

theorem digVal_mono (l : List UInt8) : ∀ acc, acc ≤ digVal acc l := by
  induction l with
  | nil => intro acc; exact Nat.le_refl _
  | cons c r ih => intro acc; exact Nat.le_trans (by omega) (ih (10 * acc + (c.toNat - 48)))

theorem digVal_lt (l : List UInt8) : ∀ acc, (∀ c ∈ l, isDig c = true) → digVal acc l < (acc + 1) * 10 ^ l.length := by
  induction l with
  | nil => intro acc _; simp [digVal_nil]
  | cons c r ih =>
    intro acc h
    have h1 := ih (10 * acc + (c.toNat - 48)) (fun x hx => h x (List.mem_cons_of_mem _ hx))
    have hc : isDig c = true := h c List.mem_cons_self
    unfold isDig at hc
    have hc' := of_decide_eq_true hc
    simp only [digVal_cons, digVal_nil, List.length_cons, Nat.pow_succ]
    refine Nat.lt_of_lt_of_le h1 ?_
    rw [show (acc + 1) * (10 ^ r.length * 10) = (10 * (acc + 1)) * 10 ^ r.length by rw [Nat.mul_comm (10 ^ r.length) 10, ← Nat.mul_assoc, Nat.mul_comm (acc + 1) 10]]
    exact Nat.mul_le_mul_right _ (by omega)

/-- A list of digits that does not begin with 0 (or is '0') is the numeral of its value. -/
theorem decDigits_digVal_pos (r : List UInt8) : ∀ acc, 1 ≤ acc → (∀ c ∈ r, isDig c = true) → decDigits (digVal acc r) = decDigits acc ++ r := by
  induction r with
  | nil => intro acc _ _; simp [digVal_nil]
  | cons c r ih =>
    intro acc h1 h
    have hc : isDig c = true := h c List.mem_cons_self
    unfold isDig at hc
    have hc' := of_decide_eq_true hc
    simp only [digVal_cons, digVal_nil]
    rw [ih (10 * acc + (c.toNat - 48)) (by omega) (fun x hx => h x (List.mem_cons_of_mem _ hx)), decDigits_big (by omega)]
    have e1 : (10 * acc + (c.toNat - 48)) / 10 = acc := by omega
    have e2 : (10 * acc + (c.toNat - 48)) % 10 = c.toNat - 48 := by omega
    have e3 : UInt8.ofNat (48 + (c.toNat - 48)) = c := by
      rw [show 48 + (c.toNat - 48) = c.toNat by omega]; exact UInt8.ofNat_toNat
    rw [e1, e2, e3, List.append_assoc]; rfl

theorem decDigits_digVal (c : UInt8) (r : List UInt8) (h : ∀ x ∈ c :: r, isDig x = true) (h0 : c.toNat = 48 → r = []) : decDigits (digVal 0 (c :: r)) = c :: r := by
  have hc : isDig c = true := h c List.mem_cons_self
  unfold isDig at hc
  have hc' := of_decide_eq_true hc
  simp only [digVal_cons, digVal_nil]
  have e3 : UInt8.ofNat (48 + (c.toNat - 48)) = c := by
    rw [show 48 + (c.toNat - 48) = c.toNat by omega]; exact UInt8.ofNat_toNat
  by_cases hz : c.toNat = 48
  · rw [h0 hz]; simp only [digVal_cons, digVal_nil]
    rw [decDigits_small (by omega), show 10 * 0 + (c.toNat - 48) = c.toNat - 48 by omega, e3]
  · rw [decDigits_digVal_pos r _ (by omega) (fun x hx => h x (List.mem_cons_of_mem _ hx)), decDigits_small (by omega), show 10 * 0 + (c.toNat - 48) = c.toNat - 48 by omega, e3]; rfl

/-! ### strconv's reading of a numeral -/
theorem parseUintM_digs (M : Nat) (hM : M < 18446744073709551616) (l : List UInt8) : ∀ acc, (∀ c ∈ l, isDig c = true) → digVal acc l ≤ M → parseUintM M acc l = .ok (digVal acc l) := by
  induction l with
  | nil => intro acc _ _; rfl
  | cons c r ih =>
    intro acc h hv
    have hc : isDig c = true := h c List.mem_cons_self
    unfold isDig at hc
    have hc' := of_decide_eq_true hc
    have hm := digVal_mono r (10 * acc + (c.toNat - 48))
    simp only [digVal_cons, digVal_nil] at hv
    unfold parseUintM
    rw [if_pos hc', if_neg (by omega), if_neg (by omega)]
    rw [show acc * 10 + (c.toNat - 48) = 10 * acc + (c.toNat - 48) by omega]
    exact ih _ (fun x hx => h x (List.mem_cons_of_mem _ hx)) hv

theorem parseUintB_dec (u : Nat) (hu : u < 18446744073709551616) : parseUintB 64 (decDigits u) = .ok u := by
  unfold parseUintB
  rw [if_neg (decDigits_ne_nil u), parseUintM_digs _ (by decide) _ 0 (decDigits_isDig u) (by rw [digVal_decDigits]; simp only [Nat.reducePow, Nat.reduceSub]; omega), digVal_decDigits]

theorem parse_itoa (v : Int) (h0 : -9223372036854775808 ≤ v) (h1 : v ≤ 9223372036854775807) : parseIntB 64 (itoa v) = .ok v := by
  by_cases hneg : v < 0
  · obtain ⟨u, rfl⟩ : ∃ u : Nat, v = -(u : Int) := ⟨v.natAbs, by omega⟩
    rw [itoa_neg u (by omega), parseIntB_minus, parseUintB_dec u (by omega)]
    simp only [signedC, Nat.reducePow, Nat.reduceSub]
    rw [if_neg (by omega)]
  · obtain ⟨u, rfl⟩ : ∃ u : Nat, v = (u : Int) := ⟨v.toNat, by omega⟩
    rw [itoa_nonneg]
    have hd := decDigits_isDig u
    cases hl : decDigits u with
    | nil => exact absurd hl (decDigits_ne_nil u)
    | cons c r =>
      rw [hl] at hd
      have hc : isDig c = true := hd c List.mem_cons_self
      unfold isDig at hc
      have hc' := of_decide_eq_true hc
      rw [parseIntB_plain 64 c r (by omega) (by omega), ← hl, parseUintB_dec u (by omega)]
      simp only [signlessC, Nat.reducePow, Nat.reduceSub]
      rw [if_neg (by omega)]

theorem itoa_inj {a b : Int} (ha0 : -9223372036854775808 ≤ a) (ha1 : a ≤ 9223372036854775807) (hb0 : -9223372036854775808 ≤ b) (hb1 : b ≤ 9223372036854775807) (h : itoa a = itoa b) : a = b := by
  have h1 := parse_itoa a ha0 ha1
  rw [h, parse_itoa b hb0 hb1] at h1
  injection h1 with h1; exact h1.symm

theorem itoa_ne_nil (v : Int) : itoa v ≠ [] := by
  unfold itoa; split
  · simp
  · exact decDigits_ne_nil _

/-- The number whose numeral some bytes are. -/
def numOf (l : List UInt8) : Option Int :=
  match parseIntB 64 l with
  | .ok v => if itoa v = l then some v else none
  | _ => none

theorem numOf_itoa {v : Int} (h0 : -9223372036854775808 ≤ v) (h1 : v ≤ 9223372036854775807) : numOf (itoa v) = some v := by
  unfold numOf; rw [parse_itoa v h0 h1]; simp
theorem numOf_some {l : List UInt8} {v : Int} (h : numOf l = some v) : l = itoa v ∧ -9223372036854775808 ≤ v ∧ v ≤ 9223372036854775807 := by
  unfold numOf at h
  split at h
  · rename_i x hx
    split at h
    · rename_i e
      injection h with h; subst h
      have hb := parseIntB_bounds hx
      simp only [Nat.reducePow, Nat.reduceSub] at hb
      exact ⟨e.symm, by omega, by omega⟩
    · cases h
  · cases h
theorem numOf_none {l : List UInt8} (h : numOf l = none) (v : Int) (h0 : -9223372036854775808 ≤ v) (h1 : v ≤ 9223372036854775807) : l ≠ itoa v := by
  intro e; subst e; rw [numOf_itoa h0 h1] at h; cases h
theorem numOf_nil : numOf [] = none := rfl

/-- What TakeNumber answers: a number and an error's number. -/
def takeV (l : List UInt8) : Int := (numOf l).getD 0
def takeE (l : List UInt8) : Int := if l = [] then 3 else if (numOf l).isSome then 0 else 4
theorem takeV_range (l : List UInt8) : -9223372036854775808 ≤ takeV l ∧ takeV l ≤ 9223372036854775807 := by
  unfold takeV
  cases h : numOf l with
  | none => simp
  | some v => simpa using (numOf_some h).2
theorem takeE_range (l : List UInt8) : 0 ≤ takeE l ∧ takeE l ≤ 4 := by
  unfold takeE; split
  · omega
  · split <;> omega
theorem take_itoa {v : Int} (h0 : -9223372036854775808 ≤ v) (h1 : v ≤ 9223372036854775807) : takeV (itoa v) = v ∧ takeE (itoa v) = 0 := by
  unfold takeV takeE; rw [numOf_itoa h0 h1, if_neg (itoa_ne_nil v)]; simp
theorem takeE_zero {l : List UInt8} : takeE l = 0 ↔ l = itoa (takeV l) ∧ l ≠ [] ∧ numOf l = some (takeV l) := by
  unfold takeE takeV
  by_cases hn : l = []
  · simp [hn]
  · rw [if_neg hn]
    cases h : numOf l with
    | none => simp
    | some v => simpa using ⟨(numOf_some h).1, hn⟩

/-! ### the reference's reading: sign, digits, no zero ahead, at most 19 digits, within the bounds -/
/-- What stands behind a sign is a numeral: not empty, at most 19 digits, no zero ahead (of a negative one: none at all). -/
def plainDigits (minus : Bool) (d : List UInt8) : Bool :=
  decide (d ≠ []) && decide (d.length ≤ 19) && !(decide (d.head?.map (·.toNat) = some 48) && (decide (1 < d.length) || minus)) && d.all isDig

theorem nDigits_le19 (u : Nat) (h : u < 10000000000000000000) : nDigits u ≤ 19 := by
  rcases Nat.lt_or_ge 19 (nDigits u) with h1 | h1
  · exfalso
    have h2 : ∀ k u, u < 10 ^ k → 1 ≤ k → nDigits u ≤ k := by
      intro k
      induction k with
      | zero => intro u _ hk; omega
      | succ k ih =>
        intro u hu _
        by_cases hs : u < 10
        · rw [nDigits_small hs]; omega
        · rw [nDigits_big hs]
          rcases Nat.eq_zero_or_pos k with rfl | hk
          · simp at hu; omega
          · have := ih (u / 10) (by rw [Nat.pow_succ] at hu; omega) hk; omega
    have := h2 19 u (by simpa using h) (by decide)
    omega
  · exact h1

/-- Digits behind no sign. -/
theorem numOf_plus {d : List UInt8} (hp : plainDigits false d = true) (hv : digVal 0 d < 9223372036854775808) : numOf d = some (digVal 0 d) := by
  unfold plainDigits at hp
  simp only [Bool.and_eq_true, Bool.not_eq_true', decide_eq_true_eq, Bool.or_false] at hp
  obtain ⟨⟨⟨h1, h2⟩, h3⟩, h4⟩ := hp
  cases d with
  | nil => exact absurd rfl h1
  | cons c r =>
    have e : decDigits (digVal 0 (c :: r)) = c :: r := decDigits_digVal c r (List.all_eq_true.1 h4) (fun hz => by
      simp [hz] at h3; exact h3)
    have := numOf_itoa (v := (digVal 0 (c :: r) : Nat)) (by omega) (by omega)
    rwa [itoa_nonneg, e] at this
theorem numOf_minus {d : List UInt8} (hp : plainDigits true d = true) (hv : digVal 0 d ≤ 9223372036854775808) : numOf (45 :: d) = some (-(digVal 0 d : Int)) := by
  unfold plainDigits at hp
  simp only [Bool.and_eq_true, Bool.not_eq_true', decide_eq_true_eq, Bool.or_true, Bool.and_true, decide_eq_false_iff_not] at hp
  obtain ⟨⟨⟨h1, h2⟩, h3⟩, h4⟩ := hp
  cases d with
  | nil => exact absurd rfl h1
  | cons c r =>
    have hc : isDig c = true := List.all_eq_true.1 h4 c List.mem_cons_self
    unfold isDig at hc
    have hc' := of_decide_eq_true hc
    have hz : c.toNat ≠ 48 := by simpa using h3
    have e : decDigits (digVal 0 (c :: r)) = c :: r := decDigits_digVal c r (List.all_eq_true.1 h4) (fun h => absurd h hz)
    have hpos : 1 ≤ digVal 0 (c :: r) := by
      have := digVal_mono r (10 * 0 + (c.toNat - 48))
      simp only [digVal_cons, digVal_nil]; omega
    have := numOf_itoa (v := -((digVal 0 (c :: r) : Nat) : Int)) (by omega) (by omega)
    rwa [itoa_neg _ hpos, e] at this
/-- And no others: what is a number's numeral has that form. -/
theorem plain_of_plus {d : List UInt8} {v : Int} (h : numOf d = some v) (h45 : d.head?.map (·.toNat) ≠ some 45) : plainDigits false d = true ∧ digVal 0 d < 9223372036854775808 := by
  obtain ⟨rfl, h0, h1⟩ := numOf_some h
  by_cases hneg : v < 0
  · obtain ⟨u, rfl⟩ : ∃ u : Nat, v = -(u : Int) := ⟨v.natAbs, by omega⟩
    rw [itoa_neg u (by omega)] at h45; exact absurd rfl h45
  · obtain ⟨u, rfl⟩ : ∃ u : Nat, v = (u : Int) := ⟨v.toNat, by omega⟩
    rw [itoa_nonneg] at *
    rw [digVal_decDigits]
    refine ⟨?_, by omega⟩
    unfold plainDigits
    simp only [Bool.and_eq_true, Bool.not_eq_true', decide_eq_true_eq, Bool.or_false]
    refine ⟨⟨⟨decDigits_ne_nil u, by rw [decDigits_length]; exact nDigits_le19 u (by omega)⟩, ?_⟩, List.all_eq_true.2 (decDigits_isDig u)⟩
    by_cases hu : u < 10
    · rw [decDigits_small hu]; simp
    · obtain ⟨c, r, e, hc, _⟩ := decDigits_head u hu
      rw [e]; simp [hc]
theorem plain_of_minus {d : List UInt8} {v : Int} (h : numOf (45 :: d) = some v) : plainDigits true d = true ∧ digVal 0 d ≤ 9223372036854775808 := by
  obtain ⟨e, h0, h1⟩ := numOf_some h
  by_cases hneg : v < 0
  · obtain ⟨u, rfl⟩ : ∃ u : Nat, v = -(u : Int) := ⟨v.natAbs, by omega⟩
    rw [itoa_neg u (by omega)] at e
    injection e with _ e; subst e
    rw [digVal_decDigits]
    refine ⟨?_, by omega⟩
    unfold plainDigits
    simp only [Bool.and_eq_true, Bool.not_eq_true', decide_eq_true_eq, Bool.or_true, Bool.and_true, decide_eq_false_iff_not]
    refine ⟨⟨⟨decDigits_ne_nil u, by rw [decDigits_length]; exact nDigits_le19 u (by omega)⟩, ?_⟩, List.all_eq_true.2 (decDigits_isDig u)⟩
    by_cases hu : u < 10
    · rw [decDigits_small hu]; simp only [List.head?_cons, Option.map_some, Option.some.injEq]; rw [dig_toNat u hu]; omega
    · obtain ⟨c, r, e, hc, _⟩ := decDigits_head u hu
      rw [e]; simp [hc]
  · obtain ⟨u, rfl⟩ : ∃ u : Nat, v = (u : Int) := ⟨v.toNat, by omega⟩
    rw [itoa_nonneg] at e
    have hd := decDigits_isDig u
    rw [← e] at hd
    exact absurd (hd 45 List.mem_cons_self) (by decide)
end Go.Proofs.YtdkindollljlnabGreatDoor

namespace Go.Proofs.YtdkindollljlnabGreatDoor
open Go.RowKit Go.Lib

/-- What Find answers from a place on. -/
def findV (s t : List UInt8) (i : Nat) : Int := if i ≤ s.length then (if index (s.drop i) t = -1 then -1 else index (s.drop i) t + i) else -1

theorem occAt_take (s t : List UInt8) (i : Nat) : occAt s t i = (((s.drop i).take t.length) == t) := by
  unfold occAt
  rw [Bool.eq_iff_iff, List.isPrefixOf_iff_prefix, beq_iff_eq, List.prefix_iff_eq_take]
  exact eq_comm
theorem occAt_drop (s t : List UInt8) (i j : Nat) : occAt (s.drop i) t j = occAt s t (i + j) := by
  unfold occAt; rw [List.drop_drop]
theorem occ_extract (s t : ByteArray) (i : Nat) : ((s.extract i (i + t.size)).toList == t.toList) = occAt s.data.toList t.data.toList i := by
  rw [occAt_take, extract_toList, toList_data t, show i + t.size - i = t.size by omega]; rfl
/-- Where index says, there is an occurrence, and none before. -/
theorem index_occ (t : List UInt8) : ∀ (s : List UInt8) (p : Nat), index s t = (p : Int) → occAt s t p = true ∧ ∀ j, j < p → occAt s t j = false := by
  intro s
  induction s with
  | nil =>
    intro p h
    unfold index at h
    split at h
    · rename_i he
      obtain rfl : p = 0 := by omega
      exact ⟨by unfold occAt; simpa using he, fun j hj => absurd hj (by omega)⟩
    · omega
  | cons b l ih =>
    intro p h
    unfold index at h
    split at h
    · rename_i hp
      obtain rfl : p = 0 := by omega
      exact ⟨by unfold occAt; simpa using hp, fun j hj => absurd hj (by omega)⟩
    · rename_i hp
      split at h
      · omega
      · rename_i hne
        have hne' : index l t ≠ -1 := by simpa using hne
        have hg := index_ge l t
        obtain ⟨q, rfl⟩ : ∃ q, p = q + 1 := ⟨p - 1, by omega⟩
        obtain ⟨h1, h2⟩ := ih q (by omega)
        refine ⟨by unfold occAt at *; simpa using h1, fun j hj => ?_⟩
        cases j with
        | zero => unfold occAt; simp only [List.drop_zero]; exact Bool.eq_false_iff.2 hp
        | succ j => have := h2 j (by omega); unfold occAt at *; simpa using this
theorem index_fits {s t : List UInt8} {p : Nat} (h : index s t = (p : Int)) : p + t.length ≤ s.length := by
  have h1 := (index_occ t s p h).1
  rw [occAt_take, beq_iff_eq] at h1
  have h2 := congrArg List.length h1
  rw [List.length_take, List.length_drop] at h2
  have h3 := index_le s t
  omega
theorem findV_hit {s t : List UInt8} {i k : Nat} (hi : i ≤ k) (hk : k ≤ s.length) (hn : ∀ j, i ≤ j → j < k → occAt s t j = false) (ho : occAt s t k = true) : findV s t i = k := by
  have h := index_first (s := s.drop i) (sub := t) (i := k - i) (by rw [List.length_drop]; omega) (by rw [occAt_drop, show i + (k - i) = k by omega]; exact ho) (fun j hj => by rw [occAt_drop]; exact hn _ (by omega) (by omega))
  unfold findV
  rw [if_pos (by omega), h, if_neg (by omega)]; omega
theorem occAt_past {s t : List UInt8} {j : Nat} (h : s.length < j + t.length) (hj : j ≤ s.length) (ht : t ≠ []) : occAt s t j = false := by
  rw [occAt_take]
  rw [beq_eq_false_iff_ne]
  intro e
  have := congrArg List.length e
  rw [List.length_take, List.length_drop] at this
  omega
theorem findV_none {s t : List UInt8} {i k : Nat} (hi : i ≤ k) (hn : ∀ j, i ≤ j → j < k → occAt s t j = false) (h : s.length < k + t.length) : findV s t i = -1 := by
  unfold findV
  split
  · rename_i hle
    have : index (s.drop i) t = -1 := index_none (fun j hj => by
      rw [occAt_drop]
      rw [List.length_drop] at hj
      rcases Nat.lt_or_ge (i + j) k with h1 | h1
      · exact hn _ (by omega) h1
      · by_cases ht : t = []
        · subst ht; simp at h; omega
        · exact occAt_past (by omega) (by omega) ht)
    rw [this]; rfl
  · rfl
theorem findV_zero (s t : List UInt8) : findV s t 0 = index s t := by
  unfold findV
  rw [if_pos (Nat.zero_le _)]
  simp only [List.drop_zero, Int.natCast_zero, Int.add_zero]
  split
  · rename_i h; exact h.symm
  · rfl

set_option maxRecDepth 100000 in
theorem find_any (s t : ByteArray) (i : Nat) (w : World) (hs : s.size ≤ 140737488351232) (ht : t.size ≤ 140737488351232) (hi : i ≤ 140737488351232) :
    Calls Tryz.prog 33 #[.string s, .string t, .int .i64 i] w fun e w' => e = .returned (.int .i64 (findV s.data.toList t.data.toList i)) ∧ w = w' := by
  have hsl : s.data.toList.length = s.size := rfl
  have htl : t.data.toList.length = t.size := rfl
  have HS := Lib.hid hsl
  have HT := Lib.hid htl
  clear hsl htl
  go_enter Tryz.func33, Tryz.ntmps33
  go_wp2
  go_loop [7] (fun v => ∃ k : Nat, i ≤ k ∧ (k ≤ s.size + 1 ∨ k = i) ∧ v = .int .i64 k ∧ Hid (∀ j, i ≤ j → j < k → occAt s.data.toList t.data.toList j = false)) (fun v => (s.size + 1 + i) - (intOf v).toNat)
  case atStart => exact ⟨i, Nat.le_refl _, Or.inr rfl, rfl, Lib.hid (fun _ _ _ => absurd ‹_› (by omega))⟩
  case round =>
    obtain ⟨k, hik, hks, rfl, HN⟩ := hrel
    have hk2 : k ≤ 140737488351233 := by omega
    by_cases hle : k + t.size ≤ s.size
    · by_cases ho : occAt s.data.toList t.data.toList k = true
      · have hb : ((s.extract k (k + t.size)).toList == t.toList) = true := by rw [occ_extract]; exact ho
        have HF := Lib.hid (findV_hit hik (by rw [HS.out]; omega) HN.out ho)
        clear ho
        go_wp2
        go_ret
        rw [HF.out]
        exact ⟨rfl, rfl⟩
      · have ho' : occAt s.data.toList t.data.toList k = false := by simpa using ho
        have hb : ((s.extract k (k + t.size)).toList == t.toList) = false := by rw [occ_extract]; exact ho'
        have HO := Lib.hid ho'
        clear ho ho'
        go_wp2
        go_round
        case rel => exact ⟨k + 1, by omega, by omega, by go_num, Lib.hid (fun j h1 h2 => by
          rcases Nat.lt_or_ge j k with h3 | h3
          · exact HN.out j h1 h3
          · obtain rfl : j = k := by omega
            exact HO.out)⟩
        case measure => simp [intOf]; omega
    · have HF := Lib.hid (findV_none hik HN.out (show s.data.toList.length < k + t.data.toList.length by rw [HS.out, HT.out]; omega))
      go_wp2
      go_ret
      rw [HF.out]
      exact ⟨rfl, rfl⟩
end Go.Proofs.YtdkindollljlnabGreatDoor

namespace Go.Proofs.YtdkindollljlnabGreatDoor
open Go

/-- The parts between slashes. -/
def parts : List UInt8 → List (List UInt8)
  | [] => [[]]
  | c :: r => if c = 47 then [] :: parts r else match parts r with
    | [] => []
    | h :: t => (c :: h) :: t
theorem parts_ne : ∀ l, ∃ h t, parts l = h :: t := by
  intro l
  induction l with
  | nil => exact ⟨_, _, rfl⟩
  | cons c r ih =>
    obtain ⟨h, t, e⟩ := ih
    unfold parts
    split
    · exact ⟨_, _, rfl⟩
    · rw [e]; exact ⟨_, _, rfl⟩
theorem parts_free : ∀ l : List UInt8, (47 : UInt8) ∉ l → parts l = [l] := by
  intro l
  induction l with
  | nil => intro _; rfl
  | cons c r ih =>
    intro h
    have hc : c ≠ 47 := fun q => h (by simp [q])
    have hr : (47 : UInt8) ∉ r := fun q => h (List.mem_cons_of_mem _ q)
    simp only [parts, if_neg hc, ih hr]
theorem parts_cut : ∀ (a r : List UInt8), (47 : UInt8) ∉ a → parts (a ++ 47 :: r) = a :: parts r := by
  intro a
  induction a with
  | nil => intro r _; simp [parts]
  | cons c a ih =>
    intro r h
    have hc : c ≠ 47 := fun q => h (by simp [q])
    have hr : (47 : UInt8) ∉ a := fun q => h (List.mem_cons_of_mem _ q)
    simp only [List.cons_append, parts, if_neg hc, ih r hr]

theorem indexByte_free : ∀ l : List UInt8, (47 : UInt8) ∉ l → Lib.indexByte l 47 = -1 := by
  intro l
  induction l with
  | nil => intro _; rfl
  | cons c r ih =>
    intro h
    have hc : c ≠ 47 := fun q => h (by simp [q])
    have hr : (47 : UInt8) ∉ r := fun q => h (List.mem_cons_of_mem _ q)
    have e : (c == 47) = false := by simpa using hc
    simp [Lib.indexByte, e, ih hr]
theorem indexByte_cut : ∀ (a r : List UInt8), (47 : UInt8) ∉ a → Lib.indexByte (a ++ 47 :: r) 47 = (a.length : Nat) := by
  intro a
  induction a with
  | nil => intro r _; simp [Lib.indexByte]
  | cons c a ih =>
    intro r h
    have hc : c ≠ 47 := fun q => h (by simp [q])
    have hr : (47 : UInt8) ∉ a := fun q => h (List.mem_cons_of_mem _ q)
    have e : (c == 47) = false := by simpa using hc
    have i := ih r hr
    have n : ¬ ((a.length : Int) = -1) := by omega
    simp [Lib.indexByte, e, i, n]
theorem cut_of_mem : ∀ l : List UInt8, (47 : UInt8) ∈ l → ∃ a r, l = a ++ 47 :: r ∧ (47 : UInt8) ∉ a := by
  intro l
  induction l with
  | nil => intro h; cases h
  | cons c l ih =>
    intro h
    by_cases hc : c = 47
    · exact ⟨[], l, by rw [hc]; rfl, by simp⟩
    · obtain ⟨a, r, e, hn⟩ := ih ((List.mem_cons.1 h).resolve_left fun q => hc q.symm)
      refine ⟨c :: a, r, by rw [e]; rfl, fun q => ?_⟩
      rcases List.mem_cons.1 q with q | q
      · exact hc q.symm
      · exact hn q
/-- What Split at a slash gives. -/
theorem splitK_parts : ∀ (k : Nat) (l : List UInt8), l.count 47 ≤ k → Lib.splitK [47] 0 k l = parts l := by
  intro k
  induction k with
  | zero =>
    intro l h
    rw [parts_free l (List.count_eq_zero.1 (by omega))]; rfl
  | succ k ih =>
    intro l h
    unfold Lib.splitK
    rw [Lib.index_one]
    by_cases hm : (47 : UInt8) ∈ l
    · obtain ⟨a, r, rfl, hn⟩ := cut_of_mem l hm
      have hc : List.count 47 a = 0 := List.count_eq_zero.2 hn
      rw [List.count_append, List.count_cons_self] at h
      have n : ¬ (((a.length : Nat) : Int) == -1) = true := fun q => by have := beq_iff_eq.1 q; omega
      rw [indexByte_cut a r hn, if_neg n, parts_cut a r hn]
      simp only [Int.toNat_natCast, Nat.add_zero, List.length_singleton]
      rw [List.take_left', List.drop_append, List.drop_eq_nil_of_le (by omega), List.nil_append, Nat.add_sub_cancel_left, List.drop_succ_cons, List.drop_zero, ih r (by omega)]
      rfl
    · rw [indexByte_free l hm, parts_free l hm]; rfl

/-- A byte that may not stand in a name. -/
def badByte (c : UInt8) : Bool := decide (c.toNat ≤ 32) || decide (c.toNat = 127) || [126, 94, 58, 63, 42, 91, 92].contains c
/-- A part that may be. -/
def partOK (p : List UInt8) : Bool := !p.isEmpty && !Lib.hasPrefix p [46] && !Lib.hasSuffix p [46, 108, 111, 99, 107]
/-- The loop of the reference from a place on: what it has read of the part, what is to come, how many parts there were. -/
def loopOK : List UInt8 → List UInt8 → Nat → Bool
  | cur, [], n => partOK cur && decide (2 ≤ n + 1)
  | cur, c :: r, n => if c = 47 then partOK cur && loopOK [] r (n + 1) else !badByte c && loopOK (cur ++ [c]) r n
theorem loopOK_parts : ∀ (l cur : List UInt8) (n : Nat) (h : List UInt8) (t : List (List UInt8)), parts l = h :: t →
    loopOK cur l n = (l.all (fun c => !badByte c) && (((cur ++ h) :: t).all partOK && decide (2 ≤ n + (t.length + 1)))) := by
  intro l
  induction l with
  | nil =>
    intro cur n h t e
    simp only [parts, List.cons.injEq] at e
    obtain ⟨rfl, rfl⟩ := e
    simp [loopOK]
  | cons c r ih =>
    intro cur n h t e
    obtain ⟨h', t', e'⟩ := parts_ne r
    unfold parts at e
    unfold loopOK
    by_cases hc : c = 47
    · subst hc
      rw [if_pos rfl, e'] at e
      simp only [List.cons.injEq] at e
      obtain ⟨rfl, rfl⟩ := e
      rw [if_pos rfl, ih [] (n + 1) h' t' e']
      have hb : badByte 47 = false := by decide
      simp only [List.nil_append, List.append_nil, List.all_cons, hb, Bool.not_false, Bool.true_and, List.length_cons]
      have : n + 1 + (t'.length + 1) = n + (t'.length + 1 + 1) := by omega
      rw [this]
      cases partOK cur <;> cases r.all (fun c => !badByte c) <;> simp
    · rw [if_neg hc, e'] at e
      simp only [List.cons.injEq] at e
      obtain ⟨rfl, rfl⟩ := e
      rw [if_neg hc, ih (cur ++ [c]) n h' t' e']
      simp only [List.append_assoc, List.singleton_append, List.all_cons]
      cases badByte c <;> simp
end Go.Proofs.YtdkindollljlnabGreatDoor

namespace Go.Proofs.YtdkindollljlnabGreatDoor
open Go.RowKit Go.Lib

theorem suffix_take (s p : List UInt8) : Lib.hasSuffix s p = (decide (p.length ≤ s.length) && (s.drop (s.length - p.length) == p)) := by
  unfold Lib.hasSuffix
  rw [Bool.eq_iff_iff, List.isSuffixOf_iff_suffix, Bool.and_eq_true, decide_eq_true_eq, beq_iff_eq]
  constructor
  · intro h; exact ⟨h.length_le, (List.suffix_iff_eq_drop.1 h).symm⟩
  · rintro ⟨_, h⟩; exact List.suffix_iff_eq_drop.2 h.symm

set_option maxRecDepth 100000 in
theorem ends_any (s t : ByteArray) (w : World) (hs : s.size ≤ 140737488351232) (ht : t.size ≤ 140737488351232) :
    Calls Tryz.prog 65 #[.string s, .string t] w fun e w' => e = .returned (.bool (Lib.hasSuffix s.data.toList t.data.toList)) ∧ w = w' := by
  have hv : Lib.hasSuffix s.data.toList t.data.toList = (decide (t.size ≤ s.size) && ((s.extract (s.size - t.size) s.size).toList == t.toList)) := by
    rw [suffix_take, extract_toList, toList_data t]
    rw [show s.data.toList.length = s.size from rfl, show t.data.toList.length = t.size from rfl]
    congr 2
    show _ = List.take (s.size - (s.size - t.size)) _
    rw [List.take_of_length_le (by rw [List.length_drop]; show s.size - _ ≤ _; omega)]
  have HV := Lib.hid hv
  clear hv
  go_enter Tryz.func65, Tryz.ntmps65
  by_cases hle : t.size ≤ s.size
  · cases hb : ((s.extract (s.size - t.size) s.size).toList == t.toList) with
    | true =>
      have e : ((s.size : Int) - (t.size : Int)).toNat = s.size - t.size := by omega
      go_wp2
      all_goals go_ret
      all_goals (rw [HV.out]; simp [hle, hb])
    | false =>
      have e : ((s.size : Int) - (t.size : Int)).toNat = s.size - t.size := by omega
      go_wp2
      all_goals go_ret
      all_goals (rw [HV.out]; simp [hle, hb])
  · go_wp2
    all_goals go_ret
    all_goals (rw [HV.out]; simp [hle])
end Go.Proofs.YtdkindollljlnabGreatDoor

namespace Go.Proofs.YtdkindollljlnabGreatDoor
open Go.RowKit Go.Lib

theorem partOK_nil {s : ByteArray} (h : s.toList = []) : partOK s.data.toList = false := by
  rw [← toList_data s, h]; rfl
theorem head_of {s : ByteArray} (h : 0 < s.size) : ∃ r, s.data.toList = s[0] :: r := by
  obtain ⟨⟨l⟩⟩ := s
  cases l with
  | nil => exact absurd h (by simp [ByteArray.size])
  | cons c r => exact ⟨r, rfl⟩
theorem partOK_dot {s : ByteArray} (h : 0 < s.size) (e : (s[0].toNat : Int) = 46) : partOK s.data.toList = false := by
  obtain ⟨r, hr⟩ := head_of h
  have e' : s[0] = 46 := UInt8.toNat_inj.1 (by have : s[0].toNat = 46 := by omega
                                               rw [this]; rfl)
  rw [hr, e']
  simp [partOK, Lib.hasPrefix]
theorem partOK_rest {s : ByteArray} (h : 0 < s.size) (e : ¬ (s[0].toNat : Int) = 46) : partOK s.data.toList = !Lib.hasSuffix s.data.toList [46, 108, 111, 99, 107] := by
  obtain ⟨r, hr⟩ := head_of h
  have e' : ¬ (46 : UInt8) = s[0] := fun q => e (by rw [← q]; rfl)
  have hp : Lib.hasPrefix (s[0] :: r) [46] = false := by simp [Lib.hasPrefix, List.isPrefixOf, e']
  rw [hr]
  unfold partOK
  rw [hp]; rfl

set_option maxRecDepth 100000 in
theorem partRef_any (s : ByteArray) (w : World) (hs : s.size ≤ 140737488351232) :
    Calls Tryz.prog 34 #[.string s] w fun e w' => e = .returned (.bool (partOK s.data.toList)) ∧ w = w' := by
  by_cases h0 : s.toList = []
  · have HV := Lib.hid (partOK_nil h0)
    go_enter Tryz.func34, Tryz.ntmps34
    go_wp2_with fail
    all_goals go_ret
    all_goals (rw [HV.out]; simp [h0])
  · have hp : 0 < s.size := by
      rcases Nat.eq_zero_or_pos s.size with h | h
      · exact absurd (by rw [toList_data s]; exact List.eq_nil_of_length_eq_zero h) h0
      · exact h
    by_cases h1 : (s[0].toNat : Int) = 46
    · have HV := Lib.hid (partOK_dot hp h1)
      go_enter Tryz.func34, Tryz.ntmps34
      go_wp2_with fail
      all_goals go_ret
      all_goals (rw [HV.out]; exact ⟨rfl, rfl⟩)
    · have HV := Lib.hid (partOK_rest hp h1)
      go_enter Tryz.func34, Tryz.ntmps34
      go_wp2_with fail
      refine (ends_any s ⟨#[46, 108, 111, 99, 107]⟩ w hs (by decide)).mono ?_
      rintro e w1 ⟨rfl, rfl⟩
      go_wp2_with fail
      all_goals go_ret
      all_goals (rw [HV.out]; first | exact ⟨rfl, rfl⟩ | (simp [h0, h1]; done) | (simp; exact fun _ => ⟨h0, h1⟩))
end Go.Proofs.YtdkindollljlnabGreatDoor

namespace Go.Proofs.YtdkindollljlnabGreatDoor
open Go Go.RowKit Go.Lib

/-- What Right answers, but for the text's being valid (V). -/
def rightV (V : Bool) (l : List UInt8) : Bool := decide (1 ≤ l.length) && decide (l.length ≤ 200) && V && decide (index l [46, 46] = -1) && decide (index l [64, 123] = -1) && !(l.getLast? == some 46) && loopOK [] l 0

/-- What ValidString answers of s, from whatever world that grew from w. -/
def ValidSays (P : Program) (f : FuncId) (s : ByteArray) (w : World) (V : Bool) : Prop := ∀ w', Below w.heap.size w w' → Calls P f #[.string s] w' fun e w'' => e = .returned (.bool V) ∧ Below w'.heap.size w' w''

theorem findV_neg {s t : List UInt8} : findV s t 0 = -1 ∨ 0 ≤ findV s t 0 := by
  rw [findV_zero]; have := Lib.index_ge s t; omega

theorem find_seven (c : UInt8) : (findV [126, 94, 58, 63, 42, 91, 92] [c] 0 = -1 ∧ [126, 94, 58, 63, 42, 91, 92].contains c = false) ∨ (0 ≤ findV [126, 94, 58, 63, 42, 91, 92] [c] 0 ∧ [126, 94, 58, 63, 42, 91, 92].contains c = true) := by
  rw [findV_zero, Lib.index_one]
  by_cases h1 : c = 126
  · subst h1; exact .inr ⟨by decide, by decide⟩
  by_cases h2 : c = 94
  · subst h2; exact .inr ⟨by decide, by decide⟩
  by_cases h3 : c = 58
  · subst h3; exact .inr ⟨by decide, by decide⟩
  by_cases h4 : c = 63
  · subst h4; exact .inr ⟨by decide, by decide⟩
  by_cases h5 : c = 42
  · subst h5; exact .inr ⟨by decide, by decide⟩
  by_cases h6 : c = 91
  · subst h6; exact .inr ⟨by decide, by decide⟩
  by_cases h7 : c = 92
  · subst h7; exact .inr ⟨by decide, by decide⟩
  refine .inl ⟨?_, ?_⟩
  · simp [Lib.indexByte, Ne.symm h1, Ne.symm h2, Ne.symm h3, Ne.symm h4, Ne.symm h5, Ne.symm h6, Ne.symm h7]
  · simp [h1, h2, h3, h4, h5, h6, h7]

set_option maxRecDepth 100000 in
theorem rightRef_any (s : ByteArray) (w : World) (hs : s.size ≤ 1000) (V : Bool) (hv : ValidSays Tryz.prog 32 s w V) :
    Calls Tryz.prog 8 #[.string s] w fun e w' => e = .returned (.bool (rightV V s.data.toList)) ∧ Below w.heap.size w w' := by
  have hb0 := Below.refl w.heap.size w
  by_cases h0 : s.size < 1
  · have HV : Hid (rightV V s.data.toList = false) := Lib.hid (by unfold rightV; rw [decide_eq_false (show ¬ 1 ≤ s.data.toList.length from by show ¬ 1 ≤ s.size; omega)]; simp)
    go_enter Tryz.func8, Tryz.ntmps8
    go_wp2_with fail
    all_goals go_ret
    all_goals (rw [HV.out]; first | exact ⟨rfl, hb0⟩ | (simp [h0]; done))
  by_cases h1 : 200 < s.size
  · have HV : Hid (rightV V s.data.toList = false) := Lib.hid (by unfold rightV; rw [decide_eq_false (show ¬ s.data.toList.length ≤ 200 from by show ¬ s.size ≤ 200; omega)]; simp)
    go_enter Tryz.func8, Tryz.ntmps8
    go_wp2_with fail
    all_goals go_ret
    all_goals (rw [HV.out]; first | exact ⟨rfl, hb0⟩ | (simp [h0]; done))
  have q0 : decide ((s.size : Int) < 1) = false := decide_eq_false (by omega)
  have q1 : decide ((200 : Int) < s.size) = false := decide_eq_false (by omega)
  go_enter Tryz.func8, Tryz.ntmps8
  go_wp2_with fail
  refine (hv _ hb0).mono ?_
  rintro e w1 ⟨rfl, hb1⟩
  cases V with
  | false =>
    have HV : Hid (rightV false s.data.toList = false) := Lib.hid (by unfold rightV; simp)
    go_wp2_with fail
    all_goals go_ret
    all_goals (rw [HV.out]; first | exact ⟨rfl, hb1⟩ | trace_state)
  | true =>
    go_wp2_with fail
    refine (find_any s ⟨#[46, 46]⟩ 0 w1 (by omega) (by decide) (by decide)).mono ?_
    rintro e w2 ⟨rfl, rfl⟩
    rcases findV_neg (s := s.data.toList) (t := [46, 46]) with hf | hf
    · have HF := Lib.hid hf
      rw [show (⟨#[46, 46]⟩ : ByteArray).data.toList = [46, 46] from rfl, hf]
      go_wp2_with fail
      refine (find_any s ⟨#[64, 123]⟩ 0 w1 (by omega) (by decide) (by decide)).mono ?_
      rintro e w2 ⟨rfl, rfl⟩
      rw [show (⟨#[64, 123]⟩ : ByteArray).data.toList = [64, 123] from rfl]
      rcases findV_neg (s := s.data.toList) (t := [64, 123]) with hg | hg
      · have HG := Lib.hid hg
        rw [hg]
        by_cases hl : ((s[s.size - 1]'(by omega)).toNat : Int) = 46
        · have HV : Hid (rightV true s.data.toList = false) := Lib.hid (by
            have : s.data.toList.getLast? = some 46 := by
              rw [List.getLast?_eq_getElem?]
              have e2 : s.data.toList[s.size - 1]? = some (s[s.size - 1]'(by omega)) := by
                rw [Array.getElem?_toList]; exact Array.getElem?_eq_getElem _
              rw [show s.data.toList.length - 1 = s.size - 1 from rfl, e2]
              congr 1
              exact UInt8.toNat_inj.1 (by have : (s[s.size - 1]'(by omega)).toNat = 46 := by omega
                                          rw [this]; rfl)
            unfold rightV; rw [this]; simp)
          have e : ((s.size : Int) - 1).toNat = s.size - 1 := by omega
          go_wp2_with fail
          all_goals go_ret
          all_goals (rw [HV.out]; first | exact ⟨rfl, hb1⟩ | trace_state)
        · have e : ((s.size : Int) - 1).toNat = s.size - 1 := by omega
          have q2 : (((s[s.size - 1]'(by omega)).toNat : Int) == 46) = false := beq_eq_false_iff_ne.2 hl
          have hl := Lib.hid hl
          go_wp2_with fail
          have HR : Hid (rightV true s.data.toList = loopOK [] s.data.toList 0) := Lib.hid (by
            have g1 : index s.data.toList [46, 46] = -1 := by rw [← findV_zero]; exact HF.out
            have g2 : index s.data.toList [64, 123] = -1 := by rw [← findV_zero]; exact HG.out
            have g3 : ¬ s.data.toList.getLast? = some 46 := by
              intro q
              rw [List.getLast?_eq_getElem?] at q
              have e2 : s.data.toList[s.size - 1]? = some (s[s.size - 1]'(by omega)) := by
                rw [Array.getElem?_toList]; exact Array.getElem?_eq_getElem _
              rw [show s.data.toList.length - 1 = s.size - 1 from rfl, e2] at q
              exact hl.out (by rw [Option.some.inj q]; rfl)
            unfold rightV
            rw [decide_eq_true (show 1 ≤ s.data.toList.length from by show 1 ≤ s.size; omega), decide_eq_true (show s.data.toList.length ≤ 200 from by show s.size ≤ 200; omega), decide_eq_true g1, decide_eq_true g2]
            rw [show (s.data.toList.getLast? == some 46) = false from beq_eq_false_iff_ne.2 g3]
            rfl)
          go_loopg [3, 4, 5] (s.size + 2) (fun gk vn vf vi wx => Below w.heap.size w wx ∧ ∃ n f i : Nat, vn = .int .i64 n ∧ vf = .int .i64 f ∧ vi = .int .i64 i ∧ n ≤ i ∧ i + gk = s.size + 2 ∧ ((f ≤ i ∧ i ≤ s.size ∧ Hid (loopOK ((s.data.toList.drop f).take (i - f)) (s.data.toList.drop i) n = loopOK [] s.data.toList 0)) ∨ (i = s.size + 1 ∧ Hid (loopOK [] s.data.toList 0 = decide (2 ≤ n)))))
          case atStart => exact ⟨hb1, 0, 0, 0, rfl, rfl, rfl, Nat.le_refl _, by omega, .inl ⟨Nat.le_refl _, Nat.zero_le _, Lib.hid (by simp)⟩⟩
          case round =>
            obtain ⟨hbx, n, f, i, rfl, rfl, rfl, hni, hgk, hi⟩ := hrel
            rcases hi with ⟨hfi, his, HL⟩ | ⟨rfl, HL⟩
            · by_cases hie : i = s.size
              · subst hie
                have hsz : (s.extract f s.size).size ≤ 140737488351232 := by rw [ByteArray.size_extract]; omega
                have hcur : Hid ((s.extract f s.size).data.toList = (s.data.toList.drop f).take (s.size - f)) := Lib.hid (by rw [← toList_data, extract_toList])
                go_wp2_with fail
                refine (partRef_any (s.extract f s.size) _ hsz).mono ?_
                rintro e w3 ⟨rfl, rfl⟩
                cases hp : partOK (s.extract f s.size).data.toList with
                | false =>
                  have HP := Lib.hid hp
                  go_wp2_with fail
                  all_goals go_ret
                  all_goals (rw [HR.out, ← HL.out, ← hcur.out, List.drop_eq_nil_of_le (Nat.le_of_eq (show s.data.toList.length = s.size from rfl))]; unfold loopOK; rw [HP.out]; first | exact ⟨rfl, hbx⟩ | trace_state)
                | true =>
                  have HP := Lib.hid hp
                  have HP2 : Hid (partOK ((s.data.toList.drop f).take (s.size - f)) = true) := Lib.hid (by rw [← hcur.out]; exact hp)
                  go_wp2_with fail
                  go_roundg 1
                  case measure => omega
                  case rel =>
                   refine ⟨hbx, n + 1, s.size + 1, s.size + 1, by go_num, by go_num, by go_num, by omega, by omega, .inr ⟨rfl, Lib.hid ?_⟩⟩
                   rw [← HL.out, List.drop_eq_nil_of_le (Nat.le_of_eq (show s.data.toList.length = s.size from rfl))]
                   unfold loopOK
                   rw [HP2.out]; simp
              · have hlt : i < s.size := by omega
                have hsl : s.data.toList.length = s.size := rfl
                have hdrop : s.data.toList.drop i = s[i] :: s.data.toList.drop (i + 1) := by
                  rw [List.drop_eq_getElem_cons (by omega)]; rfl
                have htake : (s.data.toList.drop f).take (i + 1 - f) = (s.data.toList.drop f).take (i - f) ++ [s[i]] := by
                  rw [show i + 1 - f = (i - f) + 1 by omega, List.take_add_one, List.getElem?_drop, show f + (i - f) = i by omega, List.getElem?_eq_getElem (by omega)]; rfl
                have hie2 : ((i : Int) == (s.size : Int)) = false := beq_eq_false_iff_ne.2 (by omega)
                have HD := Lib.hid hdrop
                have HT := Lib.hid htake
                clear hdrop htake
                by_cases hc : ((s[i]'hlt).toNat : Int) = 47
                · have hc47 : s[i]'hlt = 47 := UInt8.toNat_inj.1 (by have : (s[i]'hlt).toNat = 47 := by omega
                                                                     rw [this]; rfl)
                  have H47 := Lib.hid hc47
                  have hsz : (s.extract f i).size ≤ 140737488351232 := by rw [ByteArray.size_extract]; omega
                  have hcur : Hid ((s.extract f i).data.toList = (s.data.toList.drop f).take (i - f)) := Lib.hid (by rw [← toList_data, extract_toList])
                  clear hc47
                  go_wp2_with fail
                  refine (partRef_any (s.extract f i) _ hsz).mono ?_
                  rintro e w3 ⟨rfl, rfl⟩
                  cases hp : partOK (s.extract f i).data.toList with
                  | false =>
                    have HP := Lib.hid hp
                    go_wp2_with fail
                    all_goals go_ret
                    all_goals (rw [HR.out, ← HL.out, ← hcur.out, HD.out, H47.out]; unfold loopOK; rw [HP.out]; first | exact ⟨rfl, hbx⟩ | trace_state)
                  | true =>
                    have HP2 : Hid (partOK ((s.data.toList.drop f).take (i - f)) = true) := Lib.hid (by rw [← hcur.out]; exact hp)
                    go_wp2_with fail
                    go_roundg (gk - 1)
                    case measure => omega
                    case rel =>
                     refine ⟨hbx, n + 1, i + 1, i + 1, by go_num, by go_num, by go_num, by omega, by omega, .inl ⟨Nat.le_refl _, by omega, Lib.hid ?_⟩⟩
                     rw [← HL.out, HD.out, H47.out, show i + 1 - (i + 1) = 0 by omega]
                     conv => rhs; unfold loopOK
                     rw [HP2.out]; simp
                · have hc2 : (((s[i]'hlt).toNat : Int) == 47) = false := beq_eq_false_iff_ne.2 hc
                  have hcn : ¬ (s[i]'hlt = 47) := fun q => hc (by rw [q]; rfl)
                  have HN := Lib.hid hcn
                  clear hcn
                  by_cases hb1 : ((s[i]'hlt).toNat : Int) ≤ 32
                  · have HB : Hid (badByte (s[i]'hlt) = true) := Lib.hid (by unfold badByte; rw [decide_eq_true (show (s[i]'hlt).toNat ≤ 32 by omega)]; rfl)
                    go_wp2_with fail
                    all_goals go_ret
                    all_goals (rw [HR.out, ← HL.out, HD.out]; unfold loopOK; rw [if_neg HN.out, HB.out]; first | exact ⟨rfl, hbx⟩ | trace_state)
                  by_cases hb2 : ((s[i]'hlt).toNat : Int) = 127
                  · have HB : Hid (badByte (s[i]'hlt) = true) := Lib.hid (by unfold badByte; rw [decide_eq_true (show (s[i]'hlt).toNat = 127 by omega)]; simp)
                    have hd1 : decide (((s[i]'hlt).toNat : Int) ≤ 32) = false := decide_eq_false hb1
                    go_wp2_with fail
                    all_goals go_ret
                    all_goals (rw [HR.out, ← HL.out, HD.out]; unfold loopOK; rw [if_neg HN.out, HB.out]; first | exact ⟨rfl, hbx⟩ | trace_state)
                  have hd1 : decide (((s[i]'hlt).toNat : Int) ≤ 32) = false := decide_eq_false hb1
                  have hd2 : (((s[i]'hlt).toNat : Int) == 127) = false := beq_eq_false_iff_ne.2 hb2
                  have hcv := run_convert_bytes_back (P := Tryz.prog) (wr.alloc (Obj.cells #[Value.int IntKind.u8 ((s[i]'hlt).toNat : Int)] 5)) 33 9 5 ⟨wr.heap.size, 0, none⟩ 1 [s[i]'hlt] Tryz.underlying33 Tryz.underlying5 Tryz.underlying9 (fun j hj => by
                    have : j = 0 := by simp at hj; omega
                    subst this
                    rw [show (Addr.add ⟨wr.heap.size, 0, none⟩ 0 : Addr) = ⟨wr.heap.size, 0, none⟩ from rfl, World.cell?_alloc_new]
                    rfl)
                  rw [show ([s[i]'hlt] : List UInt8).length = 1 from rfl] at hcv
                  go_wp2_with fail
                  refine (find_any ⟨#[126, 94, 58, 63, 42, 91, 92]⟩ ⟨#[s[i]'hlt]⟩ 0 _ (by decide) (by show 1 ≤ _; omega) (by decide)).mono ?_
                  rintro e w3 ⟨rfl, rfl⟩
                  have hbz : Below w.heap.size w (wr.alloc (Obj.cells #[Value.int IntKind.u8 ((s[i]'hlt).toNat : Int)] 5)) := hbx.alloc hbx.size _
                  rw [show (⟨#[126, 94, 58, 63, 42, 91, 92]⟩ : ByteArray).data.toList = [126, 94, 58, 63, 42, 91, 92] from rfl, show (⟨#[s[i]'hlt]⟩ : ByteArray).data.toList = [s[i]'hlt] from rfl]
                  rcases find_seven (s[i]'hlt) with ⟨hf7, hc7⟩ | ⟨hf7, hc7⟩
                  · have HB : Hid (badByte (s[i]'hlt) = false) := Lib.hid (by unfold badByte; rw [hc7, decide_eq_false (show ¬ (s[i]'hlt).toNat ≤ 32 by omega), decide_eq_false (show ¬ (s[i]'hlt).toNat = 127 by omega)]; rfl)
                    clear hc7
                    rw [hf7]
                    go_wp2_with fail
                    go_roundg (gk - 1)
                    case measure => omega
                    case rel =>
                     refine ⟨hbz, n, f, i + 1, rfl, rfl, by go_num, by omega, by omega, .inl ⟨by omega, by omega, Lib.hid ?_⟩⟩
                     rw [← HL.out, HD.out, HT.out]
                     conv => rhs; unfold loopOK
                     rw [if_neg HN.out, HB.out]; simp
                  · have HB : Hid (badByte (s[i]'hlt) = true) := Lib.hid (by unfold badByte; rw [hc7]; simp)
                    clear hc7
                    have hd3 : ¬ findV [126, 94, 58, 63, 42, 91, 92] [s[i]'hlt] 0 < 0 := by omega
                    go_wp2_with fail
                    all_goals go_ret
                    all_goals (rw [HR.out, ← HL.out, HD.out]; unfold loopOK; rw [if_neg HN.out, HB.out]; first | exact ⟨rfl, hbz⟩ | trace_state)
            · have hn : (n : Int) ≤ 2000 := by omega
              go_wp2_with fail
              all_goals go_ret
              all_goals (rw [HR.out, HL.out]; first | exact ⟨by simp; omega, hbx⟩ | exact ⟨by congr 2; simp; omega, hbx⟩ | trace_state)
      · have HV : Hid (rightV true s.data.toList = false) := Lib.hid (by
          have : ¬ index s.data.toList [64, 123] = -1 := by rw [← findV_zero]; omega
          unfold rightV; rw [decide_eq_false this]; simp)
        have hg2 : ¬ findV s.data.toList [64, 123] 0 < 0 := by omega
        go_wp2_with fail
        all_goals go_ret
        all_goals (rw [HV.out]; first | exact ⟨rfl, hb1⟩ | trace_state)
    · have HV : Hid (rightV true s.data.toList = false) := Lib.hid (by
        have : ¬ index s.data.toList [46, 46] = -1 := by rw [← findV_zero]; omega
        unfold rightV; rw [decide_eq_false this]; simp)
      rw [show (⟨#[46, 46]⟩ : ByteArray).data.toList = [46, 46] from rfl]
      go_wp2_with fail
      all_goals go_ret
      all_goals (rw [HV.out]; first | exact ⟨rfl, hb1⟩ | trace_state)
end Go.Proofs.YtdkindollljlnabGreatDoor

namespace Go.Proofs.YtdkindollljlnabGreatDoor
open Go Go.RowKit Go.Lib

def seven : ByteArray := ⟨#[126, 94, 58, 63, 42, 91, 92]⟩
theorem seven_ascii : ∀ pos (h : pos < seven.size), (seven[pos]'h).toNat < 128 := by decide

theorem indexByte_high (c : UInt8) (hc : 128 ≤ c.toNat) : ∀ l : List UInt8, (∀ b ∈ l, b.toNat < 128) → Lib.indexByte l c = -1 := by
  intro l
  induction l with
  | nil => intro _; rfl
  | cons b r ih =>
    intro h
    have e : (b == c) = false := by
      rw [beq_eq_false_iff_ne]
      intro q
      have := h b List.mem_cons_self
      rw [q] at this; omega
    simp [Lib.indexByte, e, ih fun x hx => h x (List.mem_cons_of_mem _ hx)]

set_option maxRecDepth 100000 in
theorem validRune_any (r : Int) (w : World) :
    Calls Tryz.prog 227 #[.int .i32 r] w fun e w' => e = .returned (.bool (decide (0 ≤ r ∧ r < 55296) || decide (57343 < r ∧ r ≤ 1114111))) ∧ w' = w := by
  by_cases h1 : 0 ≤ r
  · by_cases h2 : r < 55296
    · go_enter Tryz.func227, Tryz.ntmps227
      go_wp2_with fail
      all_goals go_ret
      all_goals simp [h1, h2]
    · by_cases h3 : 57343 < r
      · by_cases h4 : r ≤ 1114111
        · go_enter Tryz.func227, Tryz.ntmps227
          go_wp2_with fail
          all_goals go_ret
          all_goals simp [h1, h2, h3, h4]
        · go_enter Tryz.func227, Tryz.ntmps227
          go_wp2_with fail
          all_goals go_ret
          all_goals simp [h1, h2, h3, h4]
      · go_enter Tryz.func227, Tryz.ntmps227
        go_wp2_with fail
        all_goals go_ret
        all_goals (simp [h1, h2, h3]; omega)
  · have h3 : ¬ 57343 < r := by omega
    go_enter Tryz.func227, Tryz.ntmps227
    go_wp2_with fail
    all_goals go_ret
    all_goals (simp [h1, h3]; omega)

set_option maxRecDepth 100000 in
theorem indexRune_high (r : Int) (w : World) (h0 : 128 ≤ r) (h1 : r ≤ 2147483647) :
    Calls Tryz.prog 177 #[.string seven, .int .i32 r] w fun e w' => e = .returned (.int .i64 (-1)) ∧ Below w.heap.size w w' := by
  have hb0 := Below.refl w.heap.size w
  have d1 : decide (r < 128) = false := decide_eq_false (by omega)
  have d2 : decide (0 ≤ r) = true := decide_eq_true (by omega)
  have hz : seven.size = 7 := rfl
  by_cases he : r = 65533
  · have d3 : (r == 65533) = true := by simp [he]
    go_enter Tryz.func177, Tryz.ntmps177
    go_wp2_with fail
    go_loopg [176] 8 (fun gk v wx => ∃ pos : Nat, pos ≤ 7 ∧ wx = w.iter seven pos ∧ gk + pos = 8)
    case atStart => exact ⟨0, by omega, rfl, rfl⟩
    case round =>
      obtain ⟨pos, hp, rfl, hg⟩ := hrel
      have hbb : Below w.heap.size w (w.iter seven pos) := hb0.alloc (Nat.le_refl _) _
      by_cases hlt : pos < seven.size
      · have hn := fun ty => run_next_ascii (P := Tryz.prog) w seven pos ty hlt (seven_ascii pos hlt)
        have hne : (((seven[pos]'hlt).toNat : Int) == 65533) = false := beq_eq_false_iff_ne.2 (by have := seven_ascii pos hlt; omega)
        go_wp2_with fail
        go_roundg (gk - 1)
        case measure => omega
        case rel => exact ⟨pos + 1, by omega, rfl, by omega⟩
      · have hn := fun ty => run_next_end (P := Tryz.prog) w seven pos ty hlt
        go_wp2_with fail
        all_goals go_ret
        all_goals exact ⟨rfl, hbb⟩
  · have d3 : (r == 65533) = false := beq_eq_false_iff_ne.2 he
    go_enter Tryz.func177, Tryz.ntmps177
    go_wp2_with fail
    refine (validRune_any r w).mono ?_
    rintro e w1 ⟨rfl, rfl⟩
    by_cases hv : (0 ≤ r ∧ r < 55296) ∨ (57343 < r ∧ r ≤ 1114111)
    · have hvb : (decide (0 ≤ r ∧ r < 55296) || decide (57343 < r ∧ r ≤ 1114111)) = true := by simpa using hv
      rw [hvb]
      have hval : Utf8.valid r = true := by
        unfold Utf8.valid
        simp only [Bool.or_eq_true, Bool.and_eq_true, decide_eq_true_eq]
        rcases hv with h | h
        · exact .inl ⟨h.1, h.2⟩
        · exact .inr ⟨by omega, h.2⟩
      obtain ⟨e2, e4, elast⟩ := encode_facts r hval h0
      have hcv := fun ws => run_convert_int_string (P := Tryz.prog) ws 21 9 .i32 r (by rw [Tryz.underlying21]; rfl) Tryz.underlying9
      generalize Utf8.encode r = E at e2 e4 elast hcv
      obtain ⟨k, hk⟩ : ∃ k, E.size = k + 1 := ⟨E.size - 1, by omega⟩
      have hk3 : k ≤ 3 := by omega
      have hlk : k < E.size := by omega
      have hl : 128 ≤ (E[k]'hlk).toNat := by
        have h := elast (by omega)
        simp only [show E.size - 1 = k by omega] at h
        exact h
      have hlt7 : k < seven.size := by omega
      have ha := seven_ascii k hlt7
      have hne : (((seven[k]'hlt7).toNat : Int) == ((E[k]'hlk).toNat : Int)) = false := beq_eq_false_iff_ne.2 (by omega)
      have hzi : ((seven.size : Nat) : Int) = 7 := rfl
      have hki : ((E.size : Nat) : Int) = (k : Int) + 1 := by omega
      have hkk : (k : Int) < (k : Int) + 1 := by omega
      have hk7 : (k : Int) < 7 := by omega
      have hk17 : (k : Int) + 1 ≤ 7 := by omega
      have hk0 : (0 : Int) ≤ (k : Int) + 1 := by omega
      have hwr : IntKind.i64.wrap ((k : Int) + 1) = (k : Int) + 1 := wrap_small _ (by omega) (by omega)
      have hkn : ((k : Int) + 1).toNat = k + 1 := by omega
      have hib : ∀ W, Calls Tryz.prog 226 #[.string (seven.extract (k + 1) 7), .int .u8 ((E[k]'hlk).toNat : Int)] W fun e w' => e = .returned (.int .i64 (-1)) ∧ w' = W := by
        intro W
        refine (Tryz.strings_IndexByte _ _ W).mono ?_
        rintro e w' ⟨rfl, rfl⟩
        refine ⟨?_, rfl⟩
        rw [indexByte_high]
        · rw [Int.toNat_natCast]
          have : (E[k]'hlk).toNat.toUInt8 = E[k]'hlk := by simp
          rw [this]; exact hl
        · intro b hb
          rw [← toList_data, extract_toList] at hb
          have hb := List.mem_of_mem_drop (List.mem_of_mem_take hb)
          have : ∀ b ∈ seven.data.toList, b.toNat < 128 := by decide
          exact this b hb
      have HL := Lib.hid hl
      have HA := Lib.hid ha
      clear hv hvb hval elast hl ha e2 e4
      go_wp2_with fail
      go_step3
      go_wp2_with fail
      go_loopg [9] 1 (fun gk v wx => Hid (wx = w1) ∧ v = .int .i64 k)
      case atStart => exact ⟨Lib.hid rfl, by go_num⟩
      case round =>
        obtain ⟨hw, rfl⟩ := hrel
        have hw := hw.out
        subst hw
        go_wp2_with fail
        go_step3
        go_wp2_with fail
        go_region
        all_goals go_wp2_with fail
        all_goals go_region_with (go_at_call 226; refine (hib _).mono ?_; rintro e w' ⟨rfl, rfl⟩)
        all_goals go_wp2_with fail
        all_goals rw [Exit.noGoto_ret]
        all_goals go_wp2_with fail
        all_goals rw [Exit.noGoto_ret]
        all_goals go_wp2_with fail
        all_goals go_ret
        all_goals exact ⟨rfl, hb0.drew.drew⟩
    · have hvb : (decide (0 ≤ r ∧ r < 55296) || decide (57343 < r ∧ r ≤ 1114111)) = false := by simpa using hv
      rw [hvb]
      go_wp2_with fail
      all_goals go_ret
      all_goals exact ⟨rfl, hb0⟩

set_option maxRecDepth 100000 in
theorem containsRune_high (r : Int) (w : World) (h0 : 128 ≤ r) (h1 : r ≤ 2147483647) :
    Calls Tryz.prog 136 #[.string seven, .int .i32 r] w fun e w' => e = .returned (.bool false) ∧ Below w.heap.size w w' := by
  go_enter Tryz.func136, Tryz.ntmps136
  go_wp2_with fail
  refine (indexRune_high r w h0 h1).mono ?_
  rintro e w1 ⟨rfl, hb⟩
  go_wp2_with fail
  all_goals go_ret
  all_goals exact ⟨rfl, hb⟩

/-- A rune that may not stand in a name. -/
def badRune (r : Int) : Bool := decide (r ≤ 32) || decide (r = 127) || (decide (r < 128) && [126, 94, 58, 63, 42, 91, 92].contains r.toNat.toUInt8)

theorem indexByte_seven (c : UInt8) : decide (0 ≤ Lib.indexByte seven.data.toList c) = [126, 94, 58, 63, 42, 91, 92].contains c := by
  have h := find_seven c
  rw [findV_zero, Lib.index_one] at h
  rw [show seven.data.toList = [126, 94, 58, 63, 42, 91, 92] from rfl]
  rcases h with ⟨h, hc⟩ | ⟨h, hc⟩
  · rw [h, hc]; rfl
  · rw [hc, decide_eq_true h]

set_option maxRecDepth 100000 in
theorem bad_any (r : Int) (w : World) (h0 : 0 ≤ r) (h1 : r ≤ 2147483647) :
    Calls Tryz.prog 104 #[.int .i32 r] w fun e w' => e = .returned (.bool (badRune r)) ∧ Below w.heap.size w w' := by
  have hb0 := Below.refl w.heap.size w
  by_cases c1 : r ≤ 32
  · have HV : Hid (badRune r = true) := Lib.hid (by simp [badRune, c1])
    have d1 : decide (r ≤ 32) = true := decide_eq_true c1
    go_enter Tryz.func104, Tryz.ntmps104
    go_wp2_with fail
    all_goals go_ret
    all_goals (rw [HV.out]; exact ⟨rfl, hb0⟩)
  have d1 : decide (r ≤ 32) = false := decide_eq_false c1
  by_cases c2 : r = 127
  · have HV : Hid (badRune r = true) := Lib.hid (by simp [badRune, c2])
    have d2 : (r == 127) = true := by simp [c2]
    clear c2
    go_enter Tryz.func104, Tryz.ntmps104
    go_wp2_with fail
    all_goals go_ret
    all_goals (rw [HV.out]; exact ⟨rfl, hb0⟩)
  have d2 : (r == 127) = false := beq_eq_false_iff_ne.2 c2
  by_cases c3 : r < 128
  · have HV : Hid (badRune r = decide (0 ≤ Lib.indexByte seven.data.toList r.toNat.toUInt8)) := Lib.hid (by rw [indexByte_seven]; simp [badRune, c1, c2, c3])
    go_enter Tryz.func104, Tryz.ntmps104
    go_wp2_with fail
    refine (Tryz.strings_ContainsRune_ascii seven r w h0 c3).mono ?_
    rintro e w1 ⟨rfl, rfl⟩
    go_wp2_with fail
    all_goals go_ret
    all_goals (rw [HV.out]; first | exact ⟨rfl, hb0⟩ | trace_state)
  · have HV : Hid (badRune r = false) := Lib.hid (by simp [badRune, c1, c2, c3])
    go_enter Tryz.func104, Tryz.ntmps104
    go_wp2_with fail
    refine (containsRune_high r w (by omega) h1).mono ?_
    rintro e w1 ⟨rfl, hb⟩
    go_wp2_with fail
    all_goals go_ret
    all_goals (rw [HV.out]; first | exact ⟨rfl, hb⟩ | trace_state)
end Go.Proofs.YtdkindollljlnabGreatDoor

namespace Go.Proofs.YtdkindollljlnabGreatDoor
open Go.RowKit Go.Lib

set_option maxRecDepth 100000 in
theorem part_any (s : ByteArray) (w : World) (hs : s.size ≤ 140737488351232) :
    Calls Tryz.prog 106 #[.string s] w fun e w' => e = .returned (.bool (partOK s.data.toList)) ∧ w' = w := by
  have hl : s.size ≤ 9223372036854775807 := by omega
  by_cases h0 : s.toList = []
  · have HV := Lib.hid (partOK_nil h0)
    go_enter Tryz.func106, Tryz.ntmps106
    go_wp2_with fail
    all_goals go_ret
    all_goals (rw [HV.out]; simp [h0])
  · have hv : partOK s.data.toList = (!Lib.hasPrefix s.data.toList [46] && !Lib.hasSuffix s.data.toList [46, 108, 111, 99, 107]) := by
      have : s.data.toList.isEmpty = false := by rw [← toList_data s]; simpa using h0
      unfold partOK; rw [this]; rfl
    have HV := Lib.hid hv
    clear hv
    go_enter Tryz.func106, Tryz.ntmps106
    go_wp2_with fail
    refine (Tryz.strings_HasPrefix s ⟨#[46]⟩ w).mono ?_
    rintro e w1 ⟨rfl, rfl⟩
    cases hb : Lib.hasPrefix s.data.toList [46] with
    | true =>
      have HB := Lib.hid hb
      go_wp2_with fail
      all_goals go_ret
      all_goals (rw [HV.out, HB.out]; exact ⟨rfl, rfl⟩)
    | false =>
      have HB := Lib.hid hb
      go_wp2_with fail
      refine (Tryz.strings_HasSuffix s ⟨#[46, 108, 111, 99, 107]⟩ _ hl).mono ?_
      rintro e w2 ⟨rfl, rfl⟩
      go_wp2_with fail
      all_goals go_ret
      all_goals (rw [HV.out, HB.out]; first | exact ⟨rfl, rfl⟩ | (simp [h0]; done))
end Go.Proofs.YtdkindollljlnabGreatDoor

namespace Go.Proofs.YtdkindollljlnabGreatDoor
open Go Go.RowKit Go.Lib

theorem decodeN_bytes (n b0 b1 b2 b3 : Nat) (h0 : 128 ≤ b0) : (2 ≤ (decodeN n b0 b1 b2 b3).2 → 128 ≤ b1) ∧ (3 ≤ (decodeN n b0 b1 b2 b3).2 → 128 ≤ b2) ∧ (4 ≤ (decodeN n b0 b1 b2 b3).2 → 128 ≤ b3) ∧ (decodeN n b0 b1 b2 b3).2 ≤ 4 := by
  unfold decodeN
  repeat' split
  all_goals simp only
  all_goals omega
theorem get!_getElem? {s : ByteArray} {q : Nat} {b : UInt8} (h : s.data.toList[q]? = some b) : s.get! q = b := by
  rw [Array.getElem?_toList] at h
  obtain ⟨hlt, e⟩ := Array.getElem?_eq_some_iff.1 h
  have hq : q < s.size := hlt
  rw [← e]
  show s.get! q = s[q]'hq
  have := get_at s q hq
  rwa [Nat.add_zero] at this
theorem badByte_high {c : UInt8} (h : 128 ≤ c.toNat) : badByte c = false := by
  unfold badByte
  rw [decide_eq_false (show ¬ c.toNat ≤ 32 by omega), decide_eq_false (show ¬ c.toNat = 127 by omega)]
  have : [126, 94, 58, 63, 42, 91, 92].contains c = false := by
    rw [Bool.eq_false_iff]
    intro q
    have q := List.contains_iff_mem.1 q
    have : ∀ x ∈ ([126, 94, 58, 63, 42, 91, 92] : List UInt8), x.toNat < 128 := by decide
    have := this c q
    omega
  rw [this]; rfl
theorem badRune_byte (c : UInt8) (h : c.toNat < 128) : badRune (c.toNat : Int) = badByte c := by
  unfold badRune badByte
  rw [Int.toNat_natCast, show c.toNat.toUInt8 = c by simp, decide_eq_true (show (c.toNat : Int) < 128 by omega), Bool.true_and]
  congr 2
  · exact decide_eq_decide.2 (by omega)
  · exact decide_eq_decide.2 (by omega)
theorem badRune_high {r : Int} (h : 128 ≤ r) : badRune r = false := by
  unfold badRune
  rw [decide_eq_false (show ¬ r ≤ 32 by omega), decide_eq_false (show ¬ r = 127 by omega), decide_eq_false (show ¬ r < 128 by omega)]; rfl
/-- The step of a range over a text: bad or not as its bytes are. -/
theorem step_good (s : ByteArray) (pos : Nat) (h : pos < s.size) (hb : badRune ((Utf8.decode s pos).1 : Int) = false) :
    ∀ q, pos ≤ q → q < pos + (Utf8.decode s pos).2 → ∀ b, s.data.toList[q]? = some b → badByte b = false := by
  intro q h1 h2 b hq
  by_cases ha : (s[pos]'h).toNat < 128
  · rw [Go.decode_ascii s pos h ha] at h2 hb
    obtain rfl : q = pos := by simp only at h2; omega
    have e := get!_getElem? hq
    have e2 := get_at s q h
    rw [Nat.add_zero, e] at e2
    rw [e2, ← badRune_byte _ ha]; exact hb
  · have e0 := get_at s pos h
    rw [Nat.add_zero] at e0
    have hd := decodeN_bytes (s.size - pos) (s.get! pos).toNat (s.get! (pos + 1)).toNat (s.get! (pos + 2)).toNat (s.get! (pos + 3)).toNat (by rw [e0]; omega)
    rw [← decode_at s pos] at hd
    obtain ⟨d1, d2, d3, d4⟩ := hd
    have e := get!_getElem? hq
    refine badByte_high ?_
    rw [← e]
    obtain hj | hj | hj | hj : q = pos ∨ q = pos + 1 ∨ q = pos + 2 ∨ q = pos + 3 := by omega
    · rw [hj, e0]; omega
    · rw [hj]; exact d1 (by omega)
    · rw [hj]; exact d2 (by omega)
    · rw [hj]; exact d3 (by omega)
theorem step_bad (s : ByteArray) (pos : Nat) (h : pos < s.size) (hb : badRune ((Utf8.decode s pos).1 : Int) = true) : badByte (s[pos]'h) = true := by
  by_cases ha : (s[pos]'h).toNat < 128
  · rw [Go.decode_ascii s pos h ha] at hb
    rw [← badRune_byte _ ha]; exact hb
  · have := (Go.decode_high s pos h (by omega)).1
    rw [badRune_high (by omega)] at hb; cases hb

/-- What is left behind the first guards. -/
def restV (l : List UInt8) : Bool := l.all (fun c => !badByte c) && ((parts l).all partOK && decide (2 ≤ (parts l).length))
theorem loopOK_rest (l : List UInt8) : loopOK [] l 0 = restV l := by
  obtain ⟨h, t, e⟩ := parts_ne l
  rw [loopOK_parts l [] 0 h t e]
  unfold restV
  rw [e, List.nil_append, List.length_cons, Nat.zero_add]
theorem all_good {l : List UInt8} (h : ∀ (q : Nat) b, l[q]? = some b → badByte b = false) : l.all (fun c => !badByte c) = true := by
  rw [List.all_eq_true]
  intro b hb
  obtain ⟨q, hq⟩ := List.getElem?_of_mem hb
  rw [h q b hq]; rfl
theorem all_bad {s : ByteArray} {pos : Nat} (h : pos < s.size) (hb : badByte (s[pos]'h) = true) : s.data.toList.all (fun c => !badByte c) = false := by
  rw [List.all_eq_false]
  refine ⟨s[pos]'h, ?_, by rw [hb]; simp⟩
  exact List.getElem_mem (l := s.data.toList) h
theorem suffix_dot (l : List UInt8) : Lib.hasSuffix l [46] = (l.getLast? == some 46) := by
  unfold Lib.hasSuffix
  rw [Bool.eq_iff_iff, List.isSuffixOf_iff_suffix, beq_iff_eq]
  constructor
  · rintro ⟨t, rfl⟩; simp
  · intro h
    obtain ⟨t, rfl⟩ := List.getLast?_eq_some_iff.1 h
    exact ⟨t, rfl⟩
theorem parts_len : ∀ (l p : List UInt8), p ∈ parts l → p.length ≤ l.length := by
  intro l
  induction l with
  | nil => intro p h; simp [parts] at h; rw [h]; exact Nat.le_refl _
  | cons c r ih =>
    intro p h
    unfold parts at h
    obtain ⟨a, t, e⟩ := parts_ne r
    rw [e] at h ih
    by_cases hc : c = 47
    · rw [if_pos hc] at h
      rcases List.mem_cons.1 h with h | h
      · rw [h]; exact Nat.zero_le _
      · have := ih p h; rw [List.length_cons]; omega
    · rw [if_neg hc] at h
      rcases List.mem_cons.1 h with h | h
      · have := ih a List.mem_cons_self
        rw [h, List.length_cons, List.length_cons]; omega
      · have := ih p (List.mem_cons_of_mem _ h); rw [List.length_cons]; omega
theorem parts_split (s : ByteArray) : (Lib.splitB ⟨#[47]⟩ 0 (Lib.countB s ⟨#[47]⟩) s).map (·.data.toList) = parts s.data.toList := by
  rw [Lib.splitB_data]
  refine splitK_parts _ _ ?_
  show _ ≤ Lib.count s.data.toList [47]
  rw [Lib.count_one]; exact Nat.le_refl _

set_option maxRecDepth 100000 in
theorem right_any (s : ByteArray) (w : World) (hs : s.size ≤ 1000) (V : Bool) (hv : ValidSays Tryz.prog 32 s w V) (m : Int) (hm : w.cell? ⟨2, 0, none⟩ = some (.int .i64 m)) :
    Calls Tryz.prog 66 #[.string s] w fun e w' => e = .returned (.bool (rightV V s.data.toList)) ∧ Below w.heap.size w w' := by
  have hb0 := Below.refl w.heap.size w
  have hlt : 2 < w.heap.size := by
    unfold World.cell? at hm
    rcases Nat.lt_or_ge 2 w.heap.size with h | h
    · exact h
    · rw [show w.heap[2]? = none from Array.getElem?_eq_none h] at hm
      cases hm
  by_cases h1 : 200 < s.size
  · have HV : Hid (rightV V s.data.toList = false) := Lib.hid (by unfold rightV; rw [decide_eq_false (show ¬ s.data.toList.length ≤ 200 from by show ¬ s.size ≤ 200; omega)]; simp)
    go_enter Tryz.func66, Tryz.ntmps66
    go_wp2_with fail
    all_goals go_ret
    all_goals (rw [HV.out]; first | exact ⟨rfl, hb0⟩ | (simp [h1]; done))
  have q1 : decide ((200 : Int) < s.size) = false := decide_eq_false (by omega)
  go_enter Tryz.func66, Tryz.ntmps66
  go_wp2_with fail
  refine (hv _ hb0).mono ?_
  rintro e w1 ⟨rfl, hb1⟩
  cases V with
  | false =>
    have HV : Hid (rightV false s.data.toList = false) := Lib.hid (by unfold rightV; simp)
    go_wp2_with fail
    all_goals go_ret
    all_goals (rw [HV.out]; first | exact ⟨rfl, hb1⟩ | trace_state)
  | true =>
    have hm1 : w1.cell? ⟨2, 0, none⟩ = some (.int .i64 m) := by rw [hb1.cell hlt]; exact hm
    go_wp2_with fail
    refine (Tryz.strings_Contains s ⟨#[46, 46]⟩ m w1 (by omega) hm1).mono ?_
    rintro e w2 ⟨rfl, rfl⟩
    rw [show (⟨#[46, 46]⟩ : ByteArray).data.toList = [46, 46] from rfl]
    cases hf : Lib.contains s.data.toList [46, 46] with
    | true =>
      have HV : Hid (rightV true s.data.toList = false) := Lib.hid (by
        have : ¬ index s.data.toList [46, 46] = -1 := by have := of_decide_eq_true hf; omega
        unfold rightV; rw [decide_eq_false this]; simp)
      go_wp2_with fail
      all_goals go_ret
      all_goals (rw [HV.out]; first | exact ⟨rfl, hb1⟩ | trace_state)
    | false =>
      have HF := Lib.hid hf
      clear hf
      go_wp2_with fail
      refine (Tryz.strings_Contains s ⟨#[64, 123]⟩ m w2 (by omega) hm1).mono ?_
      rintro e w3 ⟨rfl, rfl⟩
      rw [show (⟨#[64, 123]⟩ : ByteArray).data.toList = [64, 123] from rfl]
      cases hg : Lib.contains s.data.toList [64, 123] with
      | true =>
        have HV : Hid (rightV true s.data.toList = false) := Lib.hid (by
          have : ¬ index s.data.toList [64, 123] = -1 := by have := of_decide_eq_true hg; omega
          unfold rightV; rw [decide_eq_false this]; simp)
        go_wp2_with fail
        all_goals go_ret
        all_goals (rw [HV.out]; first | exact ⟨rfl, hb1⟩ | trace_state)
      | false =>
        have HG := Lib.hid hg
        clear hg
        go_wp2_with fail
        refine (Tryz.strings_HasSuffix s ⟨#[46]⟩ w3 (by omega)).mono ?_
        rintro e w4 ⟨rfl, rfl⟩
        rw [show (⟨#[46]⟩ : ByteArray).data.toList = [46] from rfl]
        cases hl : Lib.hasSuffix s.data.toList [46] with
        | true =>
          have HV : Hid (rightV true s.data.toList = false) := Lib.hid (by
            rw [suffix_dot] at hl
            unfold rightV; rw [hl]; simp)
          go_wp2_with fail
          all_goals go_ret
          all_goals (rw [HV.out]; first | exact ⟨rfl, hb1⟩ | trace_state)
        | false =>
          have HR : Hid (rightV true s.data.toList = restV s.data.toList) := Lib.hid (by
            rw [suffix_dot] at hl
            have g1 : index s.data.toList [46, 46] = -1 := by
              have h1 := of_decide_eq_false HF.out; have := Lib.index_ge s.data.toList [46, 46]; omega
            have g2 : index s.data.toList [64, 123] = -1 := by
              have h1 := of_decide_eq_false HG.out; have := Lib.index_ge s.data.toList [64, 123]; omega
            unfold rightV
            rw [loopOK_rest, decide_eq_true g1, decide_eq_true g2, hl, decide_eq_true (show s.data.toList.length ≤ 200 from by show s.size ≤ 200; omega)]
            by_cases h0 : 1 ≤ s.data.toList.length
            · rw [decide_eq_true h0]; rfl
            · have : s.data.toList = [] := List.eq_nil_of_length_eq_zero (by omega)
              rw [this]; rfl)
          clear hl
          go_wp2_with fail
          have hkB : w.heap.size ≤ w4.heap.size := hb1.size
          have hbi : Below w.heap.size w (w4.iter s 0) := hb1.alloc hkB _
          have hki : (w4.iter s 0).heap[w4.heap.size]? = some (.stringIter s 0) := World.iter_heap w4 s 0
          generalize w4.heap.size = k at hkB hki ⊢
          generalize w4.iter s 0 = wi at hbi hki ⊢
          clear hm1 hb1
          go_loopg [30] (s.size + 1) (fun gk v wx => Below w.heap.size w wx ∧ ∃ pos : Nat, wx.heap[k]? = some (.stringIter s pos) ∧ s.size + 1 ≤ gk + pos ∧ Hid (∀ q, q < pos → ∀ b, s.data.toList[q]? = some b → badByte b = false))
          case atStart => exact ⟨hbi, 0, hki, by omega, Lib.hid (fun q h => absurd h (by omega))⟩
          case round =>
            obtain ⟨hbx, pos, hkx, hgk, HN⟩ := hrel
            by_cases hpos : pos < s.size
            · have hnx := fun ty => run_next_any_at (P := Tryz.prog) wr k s pos ty hkx hpos
              have hd1 := Go.decode_le s pos
              have hd2 : 1 ≤ (Utf8.decode s pos).2 := by
                by_cases ha : (s[pos]'hpos).toNat < 128
                · rw [Go.decode_ascii s pos hpos ha]; exact Nat.le_refl _
                · exact (Go.decode_high s pos hpos (by omega)).2
              have hst := step_good s pos hpos
              have hsb := step_bad s pos hpos
              have hby := below_iterAt hbx hkB s (pos + (Utf8.decode s pos).2)
              have hky := iterAt_heap wr k s pos (pos + (Utf8.decode s pos).2) hkx
              have HST := Lib.hid hst
              have HSB := Lib.hid hsb
              clear hst hsb
              generalize (Utf8.decode s pos).1 = r at hnx hd1 HST HSB
              generalize (Utf8.decode s pos).2 = d at hnx hd2 HST HSB hby hky
              generalize wr.iterAt k s (pos + d) = wy at hnx hby hky
              go_wp2_with fail
              refine (bad_any r wy (by omega) (by omega)).mono ?_
              rintro e w5 ⟨rfl, hb5⟩
              cases hbr : badRune (r : Int) with
              | true =>
                have HV : Hid (restV s.data.toList = false) := Lib.hid (by
                  unfold restV; rw [all_bad hpos (HSB.out hbr)]; rfl)
                have hbz : Below w.heap.size w w5 := hby.trans (hb5.mono (by have := hby.size; omega))
                go_wp2_with fail
                all_goals go_ret
                all_goals (rw [HR.out, HV.out]; first | exact ⟨rfl, hbz⟩ | trace_state)
              | false =>
                have HG2 : Hid (∀ q, q < pos + d → ∀ b, s.data.toList[q]? = some b → badByte b = false) := Lib.hid (fun q hq b hb => by
                  rcases Nat.lt_or_ge q pos with h | h
                  · exact HN.out q h b hb
                  · exact HST.out hbr q h hq b hb)
                have hbz : Below w.heap.size w w5 := hby.trans (hb5.mono (by have := hby.size; omega))
                have hkl : k < wy.heap.size := (Array.getElem?_eq_some_iff.1 hky).1
                have hkz : w5.heap[k]? = some (.stringIter s (pos + d)) := by rw [hb5.block k hkl]; exact hky
                go_wp2_with fail
                go_roundg (gk - 1)
                case measure => omega
                case rel => exact ⟨hbz, pos + d, hkz, by omega, HG2⟩
            · have hnx := fun ty => run_next_end_at (P := Tryz.prog) wr k s pos ty hkx hpos
              have HA : Hid (s.data.toList.all (fun c => !badByte c) = true) := Lib.hid (all_good fun q b hq => by
                have : q < s.data.toList.length := (List.getElem?_eq_some_iff.1 hq).1
                have : q < s.size := this
                exact HN.out q (by omega) b hq)
              have hmx : wr.cell? ⟨2, 0, none⟩ = some (.int .i64 m) := by rw [hbx.cell hlt]; exact hm
              go_wp2_with fail
              refine (Tryz.strings_Split s ⟨#[47]⟩ m wr (by omega) hmx (by decide)).mono ?_
              rintro e w5 ⟨rfl, rfl⟩
              have hlen : (Lib.splitB ⟨#[47]⟩ 0 (Lib.countB s ⟨#[47]⟩) s).length = Lib.countB s ⟨#[47]⟩ + 1 := Lib.splitB_all _ (by decide) 0 _ s rfl
              have hcnt : Lib.countB s ⟨#[47]⟩ ≤ s.size := Lib.countB_le _ (by decide) _ s (Nat.le_refl _)
              have hps := parts_split s
              have HPS := Lib.hid hps
              clear hps
              generalize Lib.countB s ⟨#[47]⟩ = c at hlen hcnt HPS
              generalize Lib.splitB ⟨#[47]⟩ 0 c s = L at hlen HPS
              go_wp2_with fail
              have hb2 : Below w.heap.size w (wr.alloc (Obj.cells (List.map Value.string L).toArray 9)) := hbx.alloc hbx.size _
              have hcell : ∀ (j : Nat) (h : j < L.length), (wr.alloc (Obj.cells (List.map Value.string L).toArray 9)).cell? ⟨wr.heap.size, j, none⟩ = some (.string (L[j]'h)) := fun j h => by
                rw [World.cell?_alloc_new]; simp [h]
              generalize wr.alloc (Obj.cells (List.map Value.string L).toArray 9) = wz at hb2 hcell ⊢
              generalize wr.heap.size = R at hcell ⊢
              clear hkx hnx hmx hbx hbi hki hkB
              have HC := Lib.hid hcell
              clear hcell
              go_loopg [39] (c + 2) (fun gk v wx => wx = wz ∧ ∃ j : Nat, v = .int .i64 j ∧ gk + j = c + 2 ∧ j ≤ c + 1 ∧ Hid ((L.take j).all (fun p => partOK p.data.toList) = true))
              case atStart => exact ⟨rfl, 0, rfl, by omega, by omega, Lib.hid rfl⟩
              case round =>
                obtain ⟨hwz, j, rfl, hgj, hjc, HJ⟩ := hrel
                subst hwz
                by_cases hjl : j < L.length
                · have hcj := HC.out j hjl
                  have hjz : (j : Int) < (c : Int) + 1 := by omega
                  have hsj : (L[j]'hjl).size ≤ 140737488351232 := by
                    have h1 := parts_len s.data.toList ((L[j]'hjl).data.toList) (by rw [← HPS.out]; exact List.mem_map_of_mem (List.getElem_mem hjl))
                    have h2 : (L[j]'hjl).size ≤ s.size := h1
                    omega
                  go_wp2_with fail
                  refine (part_any (L[j]'hjl) _ hsj).mono ?_
                  rintro e w6 ⟨rfl, rfl⟩
                  cases hp : partOK (L[j]'hjl).data.toList with
                  | false =>
                    have HV : Hid (restV s.data.toList = false) := Lib.hid (by
                      unfold restV
                      have : (parts s.data.toList).all partOK = false := by
                        rw [← HPS.out, List.all_eq_false]
                        exact ⟨_, List.mem_map_of_mem (List.getElem_mem hjl), by rw [hp]; simp⟩
                      rw [this, HA.out]; rfl)
                    go_wp2_with fail
                    all_goals go_ret
                    all_goals (rw [HR.out, HV.out]; first | exact ⟨rfl, hb2⟩ | trace_state)
                  | true =>
                    have HJ2 : Hid ((L.take (j + 1)).all (fun p => partOK p.data.toList) = true) := Lib.hid (by
                      rw [List.take_succ_eq_append_getElem hjl, List.all_append, HJ.out]
                      simp [hp])
                    go_wp2_with fail
                    go_roundg (gk - 1)
                    case measure => omega
                    case rel => exact ⟨rfl, j + 1, by go_num, by omega, by omega, HJ2⟩
                · have hjz : ¬ (j : Int) < (c : Int) + 1 := by omega
                  have HV : Hid (restV s.data.toList = decide (2 ≤ (c : Int) + 1)) := Lib.hid (by
                    unfold restV
                    have h1 : (parts s.data.toList).all partOK = true := by
                      rw [← HPS.out, List.all_map]
                      have := HJ.out
                      rw [List.take_of_length_le (by omega)] at this
                      exact this
                    have h2 : (parts s.data.toList).length = c + 1 := by rw [← HPS.out, List.length_map, hlen]
                    rw [h1, HA.out, h2]
                    simp only [Bool.true_and]
                    exact decide_eq_decide.2 (by omega))
                  go_wp2_with fail
                  all_goals go_ret
                  all_goals (rw [HR.out, HV.out]; first | exact ⟨rfl, hb2⟩ | trace_state)
end Go.Proofs.YtdkindollljlnabGreatDoor

namespace Go.Proofs.YtdkindollljlnabGreatDoor
open Go Go.RowKit Go.Lib

theorem begins_take (s p : List UInt8) : Lib.hasPrefix s p = (decide (p.length ≤ s.length) && (s.take p.length == p)) := by
  unfold Lib.hasPrefix
  rw [Bool.eq_iff_iff, List.isPrefixOf_iff_prefix, Bool.and_eq_true, decide_eq_true_eq, beq_iff_eq]
  constructor
  · intro h; exact ⟨h.length_le, (List.prefix_iff_eq_take.1 h).symm⟩
  · rintro ⟨_, h⟩; exact List.prefix_iff_eq_take.2 h.symm

set_option maxRecDepth 100000 in
theorem begins_any (s t : ByteArray) (w : World) (hs : s.size ≤ 140737488351232) (ht : t.size ≤ 140737488351232) :
    Calls Tryz.prog 40 #[.string s, .string t] w fun e w' => e = .returned (.bool (Lib.hasPrefix s.data.toList t.data.toList)) ∧ w = w' := by
  have hv : Lib.hasPrefix s.data.toList t.data.toList = (decide (t.size ≤ s.size) && ((s.extract 0 t.size).toList == t.toList)) := by
    rw [begins_take, extract_toList, toList_data t]
    rw [show s.data.toList.length = s.size from rfl, show t.data.toList.length = t.size from rfl]
    rfl
  have HV := Lib.hid hv
  clear hv
  go_enter Tryz.func40, Tryz.ntmps40
  by_cases hle : t.size ≤ s.size
  · cases hb : ((s.extract 0 t.size).toList == t.toList) with
    | true =>
      go_wp2
      all_goals go_ret
      all_goals (rw [HV.out]; simp [hle, hb])
    | false =>
      go_wp2
      all_goals go_ret
      all_goals (rw [HV.out]; simp [hle, hb])
  · go_wp2
    all_goals go_ret
    all_goals (rw [HV.out]; simp [hle])

def heads : ByteArray := ⟨#[114, 101, 102, 115, 47, 104, 101, 97, 100, 115, 47]⟩
/-- What Branch answers (V: whether the whole text is valid). -/
def branchV (V : Bool) (s : ByteArray) : Bool := !Lib.hasPrefix s.data.toList [45] && rightV V (heads ++ s).data.toList

set_option maxRecDepth 100000 in
theorem branchRef_any (s : ByteArray) (w : World) (hs : s.size ≤ 900) (V : Bool) (hv : ValidSays Tryz.prog 32 (heads ++ s) w V) :
    Calls Tryz.prog 11 #[.string s] w fun e w' => e = .returned (.bool (branchV V s)) ∧ Below w.heap.size w w' := by
  have hz : (heads ++ s).size ≤ 1000 := by rw [ByteArray.size_append]; show 11 + s.size ≤ _; omega
  have hc := rightRef_any (heads ++ s) w hz V hv
  have HV : Hid (branchV V s = (!Lib.hasPrefix s.data.toList [45] && rightV V (heads ++ s).data.toList)) := Lib.hid rfl
  have HH : Hid (heads = (⟨#[114, 101, 102, 115, 47, 104, 101, 97, 100, 115, 47]⟩ : ByteArray)) := Lib.hid rfl
  rw [HH.out] at hc
  go_enter Tryz.func11, Tryz.ntmps11
  go_wp2_with fail
  refine hc.mono ?_
  rintro e w1 ⟨rfl, hb⟩
  cases hr : rightV V ((⟨#[114, 101, 102, 115, 47, 104, 101, 97, 100, 115, 47]⟩ : ByteArray) ++ s).data.toList with
  | false =>
    rw [← HH.out] at hr
    have HR := Lib.hid hr
    go_wp2_with fail
    all_goals go_ret
    all_goals (rw [HV.out, HR.out]; first | exact ⟨by simp, hb⟩ | trace_state)
  | true =>
    rw [← HH.out] at hr
    have HR := Lib.hid hr
    go_wp2_with fail
    refine (begins_any s ⟨#[45]⟩ w1 (by omega) (by decide)).mono ?_
    rintro e w2 ⟨rfl, rfl⟩
    go_wp2_with fail
    all_goals go_ret
    all_goals (rw [HV.out, HR.out]; first | exact ⟨by simp, hb⟩ | trace_state)

set_option maxRecDepth 100000 in
theorem branch_any (s : ByteArray) (w : World) (hs : s.size ≤ 900) (V : Bool) (hv : ValidSays Tryz.prog 32 (heads ++ s) w V) (m : Int) (hm : w.cell? ⟨2, 0, none⟩ = some (.int .i64 m)) :
    Calls Tryz.prog 74 #[.string s] w fun e w' => e = .returned (.bool (branchV V s)) ∧ Below w.heap.size w w' := by
  have hz : (heads ++ s).size ≤ 1000 := by rw [ByteArray.size_append]; show 11 + s.size ≤ _; omega
  have hb0 := Below.refl w.heap.size w
  have hc := right_any (heads ++ s) w hz V hv m hm
  have HV : Hid (branchV V s = (!Lib.hasPrefix s.data.toList [45] && rightV V (heads ++ s).data.toList)) := Lib.hid rfl
  have HH : Hid (heads = (⟨#[114, 101, 102, 115, 47, 104, 101, 97, 100, 115, 47]⟩ : ByteArray)) := Lib.hid rfl
  rw [HH.out] at hc
  go_enter Tryz.func74, Tryz.ntmps74
  go_wp2_with fail
  refine (Tryz.strings_HasPrefix s ⟨#[45]⟩ w).mono ?_
  rintro e w1 ⟨rfl, rfl⟩
  rw [show (⟨#[45]⟩ : ByteArray).data.toList = [45] from rfl]
  cases hp : Lib.hasPrefix s.data.toList [45] with
  | true =>
    have HP := Lib.hid hp
    go_wp2_with fail
    all_goals go_ret
    all_goals (rw [HV.out, HP.out]; first | exact ⟨rfl, hb0⟩ | trace_state)
  | false =>
    have HP := Lib.hid hp
    go_wp2_with fail
    refine hc.mono ?_
    rintro e w2 ⟨rfl, hb⟩
    rw [← HH.out]
    go_wp2_with fail
    all_goals go_ret
    all_goals (rw [HV.out, HP.out]; first | exact ⟨rfl, hb⟩ | trace_state)

theorem valid_says (s : ByteArray) (w : World) (hs : s.size ≤ 1000) (hT : Lib.Utf8Tabs 0 1 w) : ValidSays Tryz.prog 32 s w (Lib.validD s.data.toList) :=
  fun w' hb => (Tryz.utf8_ValidString s w' (by omega) (Utf8Tabs_below hT hb))
end Go.Proofs.YtdkindollljlnabGreatDoor

