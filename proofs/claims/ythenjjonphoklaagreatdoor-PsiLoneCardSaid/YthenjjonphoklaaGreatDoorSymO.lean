/-
  THE EXECUTOR, part O: all operations in one function.
-/
import Derived.Test.YthenjjonphoklaaGreatDoorSymZI
import Derived.Test.YthenjjonphoklaaGreatDoorSymN
import Derived.Test.YthenjjonphoklaaGreatDoorOrderly
set_option linter.unusedVariables false
set_option linter.unusedSimpArgs false
namespace Go.Proofs.YthenjjonphoklaaGreatDoor
open Go Go.RowKit

variable {P : Program} {w0 : Base} {env : Env} {σ : SH} {w : World}

theorem run_callFunc {f : FuncId} (hg : goes P f = true) (args : Array Value) (w : World) : (callFunc f args).run P w = .ok (.enter f args) w := by
  unfold goes at hg
  cases hf : P.funcs[f]? with
  | none => rw [hf] at hg; cases hg
  | some fn =>
    rw [hf] at hg
    simp only [Bool.and_eq_true, Bool.not_eq_true'] at hg
    obtain ⟨c, hb⟩ := Option.isSome_iff_exists.1 hg.1
    have h1 : fn.name ≠ "runtime.NumGoroutine" := by simpa using hg.2
    simp [callFunc, hf, h1, hb]

noncomputable def intO (st : Row) : Option Operand → Option (Option Int)
  | none => some none
  | some x => match evalS st x with
    | some (.int _ n) => some (some n)
    | _ => none
theorem intO_ok {st : Row} {a : Act} (hf : FRel env st a) {x : Option Operand} {i : Option Int} (h : intO st x = some i) : IntO (x.map a.eval) i := by
  unfold intO at h
  split at h
  · cases h; exact .inl ⟨rfl, rfl⟩
  · rename_i y
    split at h
    · rename_i k n hy; cases h
      have := evalS_den hf.tmps hy
      simp only [den, Option.some.injEq] at this
      exact .inr ⟨k, n, by rw [Option.map_some, this], rfl⟩
    · cases h

def zipIx : List Nat → List SV → List (Nat × SV)
  | i :: r, s :: t => (i, s) :: zipIx r t
  | _, _ => []
theorem zipIx_1 : ∀ {l : List Nat} {m : List SV}, l.length = m.length → (zipIx l m).map (·.1) = l := by
  intro l
  induction l with
  | nil => intro m _; cases m <;> rfl
  | cons i r ih => intro m h; cases m with
    | nil => cases h
    | cons s t => simp only [zipIx, List.map_cons]; rw [ih (by simpa using h)]
theorem zipIx_2 : ∀ {l : List Nat} {m : List SV}, l.length = m.length → (zipIx l m).map (·.2) = m := by
  intro l
  induction l with
  | nil => intro m h; cases m with
    | nil => rfl
    | cons s t => cases h
  | cons i r ih => intro m h; cases m with
    | nil => cases h
    | cons s t => simp only [zipIx, List.map_cons]; rw [ih (by simpa using h)]

/-- A written-out value without addresses. -/
def flatV : SV → Option Value
  | .agg l => match flatL l with
    | some vs => some (.agg vs.toArray)
    | none => none
  | s => flatC s
theorem flatV_den {s : SV} {v : Value} (h : flatV s = some v) : den env s = some v := by
  unfold flatV at h
  split at h
  · split at h
    · rename_i l vs hl; cases h; simp only [den, flatL_den hl]
    · cases h
  · cases s <;> simp only [flatC] at h <;> first | (cases h; done) | (cases h; rfl)
noncomputable def sCallOp (P : Program) (st : Row) (c : Call) (σ : SH) : Option SR := match c.callee with
  | .builtin .len => match c.args.toList, c.argTypes.toList with
    | [x], [T] => match evalS st x with
      | some s => match sLen P σ T s with
        | some t => some (.val t σ)
        | none => none
      | none => none
    | _, _ => none
  | .builtin .cap => match c.args.toList, c.argTypes.toList with
    | [x], [T] => match evalS st x with
      | some s => match sCap P T s with
        | some t => some (.val t σ)
        | none => none
      | none => none
    | _, _ => none
  | .builtin .append => match c.args.toList, c.argTypes.toList with
    | [x, y], [T, T'] => match evalS st x, evalS st y with
      | some s, some t => match sAppend P σ T T' s t with
        | some r => some r
        | none => sAppendZ P σ T T' s t
      | _, _ => none
    | _, _ => none
  | .builtin .copy => match c.args.toList, c.argTypes.toList with
    | [x, y], [T, T'] => match evalS st x, evalS st y with
      | some s, some t => match sCopy P σ T T' s t with
        | some (r, σ') => some (.val r σ')
        | none => none
      | _, _ => none
    | _, _ => none
  | .builtin .min => match c.args.toList with
    | [x, y] => match evalS st x, evalS st y with
      | some s, some t => match sMinMax false s t with
        | some r => some (.val r σ)
        | none => none
      | _, _ => none
    | _ => none
  | .builtin .max => match c.args.toList with
    | [x, y] => match evalS st x, evalS st y with
      | some s, some t => match sMinMax true s t with
        | some r => some (.val r σ)
        | none => none
      | _, _ => none
    | _ => none
  | .value f => match evalS st f, evalL st c.args.toList with
    | some (.fn (.func g) first captured), some l => if goes P g then some (.enter g (first ++ l ++ captured) σ) else none
    | _, _ => none
  | .invoke f name => match evalS st f, evalL st c.args.toList with
    | some (.iface t v), some l => match sMeth P t name with
      | some g => if goes P g then some (.enter g (v :: l) σ) else none
      | none => none
    | _, _ => none
  | _ => none
theorem sCallOp_ok (ho : env.ones) (h : Rel P w0 env σ w) {st : Row} {a : Act} (hf : FRel env st a) {c : Call} {r : SR} (hs : sCallOp P st c σ = some r) (d : Option Tmp) (ty : TypeId) (pos : String) (af : Array Edge) (g : Option (Nat × Bool)) :
    Outcome P w0 env ((execOp a.eval ⟨d, .call c, ty, pos, af, g⟩).run P w) r := by
  obtain ⟨callee, args, tys⟩ := c
  unfold sCallOp at hs
  simp only at hs
  split at hs
  · split at hs
    · rename_i x T ha ht
      split at hs
      · rename_i s hx
        split at hs
        · rename_i t hl; cases hs
          obtain ⟨u, hu, hrun⟩ := sLen_ok (ty := ty) h hl (evalS_den hf.tmps hx)
          have e1 : args = #[x] := by cases args; simp_all
          have e2 : tys = #[T] := by cases tys; simp_all
          subst e1; subst e2
          refine .same (v := u) ?_ h hu
          simp [execOp, resolve, invoke, builtin, hrun]
        · cases hs
      · cases hs
    · cases hs
  · split at hs
    · rename_i x T ha ht
      split at hs
      · rename_i s hx
        split at hs
        · rename_i t hl; cases hs
          obtain ⟨u, hu, hrun⟩ := sCap_ok (P := P) (w := w) (ty := ty) hl (evalS_den hf.tmps hx)
          have e1 : args = #[x] := by cases args; simp_all
          have e2 : tys = #[T] := by cases tys; simp_all
          subst e1; subst e2
          refine .same (v := u) ?_ h hu
          simp [execOp, resolve, invoke, builtin, hrun]
        · cases hs
      · cases hs
    · cases hs
  · split at hs
    · rename_i x y T T' ha ht
      split at hs
      · rename_i s t hx hy
        have key : ∃ q σ' env' v' w', r = .val q σ' ∧ (Builtin.append_ #[T, T'] ty #[a.eval x, a.eval y]).run P w = .ok v' w' ∧ env.le env' ∧ Rel P w0 env' σ' w' ∧ den env' q = some v' := by
          split at hs
          · rename_i r' hs'; cases hs
            exact sAppend_ok (ty := ty) ho h hs' (evalS_den hf.tmps hx) (evalS_den hf.tmps hy)
          · exact sAppendZ_ok (ty := ty) ho h hs (evalS_den hf.tmps hx) (evalS_den hf.tmps hy)
        obtain ⟨q, σ', env', v', w', rfl, hrun, hle, hrel, hd⟩ := key
        have e1 : args = #[x, y] := by cases args; simp_all
        have e2 : tys = #[T, T'] := by cases tys; simp_all
        subst e1; subst e2
        refine ⟨env', v', w', .inl ?_, hle, hrel, hd⟩
        simp [execOp, resolve, invoke, builtin, hrun]
      · cases hs
    · cases hs
  · split at hs
    · rename_i x y T T' ha ht
      split at hs
      · rename_i s t hx hy
        split at hs
        · rename_i q σ' hc; cases hs
          obtain ⟨v', w', hrun, hrel, hd⟩ := sCopy_ok (ty := ty) ho h hc (evalS_den hf.tmps hx) (evalS_den hf.tmps hy)
          have e1 : args = #[x, y] := by cases args; simp_all
          have e2 : tys = #[T, T'] := by cases tys; simp_all
          subst e1; subst e2
          refine ⟨env, v', w', .inl ?_, Env.le_refl _, hrel, hd⟩
          simp [execOp, resolve, invoke, builtin, hrun]
        · cases hs
      · cases hs
    · cases hs
  · split at hs
    · rename_i x y ha
      split at hs
      · rename_i s t hx hy
        split at hs
        · rename_i u hm; cases hs
          obtain ⟨v, hv, hrun⟩ := sMin_ok (P := P) (tys := tys) (ty := ty) hm (evalS_den hf.tmps hx) (evalS_den hf.tmps hy)
          have e1 : args = #[x, y] := by cases args; simp_all
          subst e1
          refine .same (v := v) ?_ h hv
          simp [execOp, resolve, invoke, builtin, hrun]
        · cases hs
      · cases hs
    · cases hs
  · split at hs
    · rename_i x y ha
      split at hs
      · rename_i s t hx hy
        split at hs
        · rename_i u hm; cases hs
          obtain ⟨v, hv, hrun⟩ := sMax_ok (P := P) (tys := tys) (ty := ty) hm (evalS_den hf.tmps hx) (evalS_den hf.tmps hy)
          have e1 : args = #[x, y] := by cases args; simp_all
          subst e1
          refine .same (v := v) ?_ h hv
          simp [execOp, resolve, invoke, builtin, hrun]
        · cases hs
      · cases hs
    · cases hs
  · split at hs
    · rename_i f q first captured l hx hl
      split at hs
      · rename_i hg; cases hs
        obtain ⟨u, v, hu, hv, e⟩ := den_fn (evalS_den hf.tmps hx)
        have hld := evalL_den hf.tmps hl
        refine ⟨u ++ args.toList.map a.eval ++ v, w, ?_, h, denL_append (denL_append hu hld) hv⟩
        have e2 : (u ++ args.toList.map a.eval ++ v).toArray = u.toArray ++ args.map a.eval ++ v.toArray := by
          obtain ⟨args⟩ := args; simp
        rw [e2]
        simp only [execOp, resolve, Sem.run_bind, e, Deferred.ofValue]
        exact run_callFunc hg _ w
      · cases hs
    · cases hs
  · rename_i f name
    split at hs
    · rename_i t v l hx hl
      split at hs
      · rename_i g hm
        split at hs
        · rename_i hg; cases hs
          obtain ⟨u, hu, e⟩ := den_iface (evalS_den hf.tmps hx)
          have hld := evalL_den hf.tmps hl
          refine ⟨u :: args.toList.map a.eval, w, ?_, h, denL_mk hu hld⟩
          have hrun := sMeth_ok hm (P.types.size + 99) u w
          have e2 : (u :: args.toList.map a.eval).toArray = #[u] ++ args.map a.eval := by
            obtain ⟨args⟩ := args; simp
          rw [e2]
          have e3 : ∀ (r : Value) (m : Array Value), (#[r] ++ m).extract 1 (#[r] ++ m).size = m := fun r m => by
            obtain ⟨m⟩ := m; simp [List.take_of_length_le]
          have e4 : ∀ (r : Value) (m : Array Value), (#[r] ++ m)[0]? = some r := fun r m => by
            obtain ⟨m⟩ := m; simp
          have e5 : P.types.size + Made.depth = P.types.size + 99 + 1 := rfl
          simp only [execOp, resolve, Sem.run_bind, Sem.run_pure, Result.andThen_ok, e, invoke, e4, e3, callMethod, run_program, e5, hrun]
          exact run_callFunc hg _ w
        · cases hs
      · cases hs
    · cases hs
  · cases hs

noncomputable def sOp (P : Program) : OpF := fun st o σ => match o.op with
  | .move x | .assign x => match evalS st x with
    | some s => some (.val s σ)
    | none => none
  | .pick c a b => match evalS st c, evalS st a, evalS st b with
    | some c, some a, some b => sPick c a b σ
    | _, _, _ => none
  | .alloc T => sAlloc P σ T
  | .box T x => match evalS st x with
    | some s => some (sBox σ T s)
    | none => none
  | .build T parts => match evalL st (parts.toList.map (·.2)) with
    | some l => sBuild P σ T (zipIx (parts.toList.map (·.1)) l)
    | none => none
  | .buildSlice T n parts => match evalL st (parts.toList.map (·.2)) with
    | some [] => match n with
      | 0 => sBuildNone P σ T
      | n + 1 => sBuildSlice P σ T (n + 1) []
    | some l => sBuildSlice P σ T n (zipIx (parts.toList.map (·.1)) l)
    | none => none
  | .load T x => match evalS st x with
    | some s => sLoad P σ T s
    | none => none
  | .store T x y => match evalS st x, evalS st y with
    | some a, some s => sStore P σ T a s
    | _, _ => none
  | .nilCheck x => match evalS st x with
    | some s => sNilCheck σ s
    | none => none
  | .binOp op T x y _ => match evalS st x, evalS st y with
    | some a, some b => sBinary P σ op T x y a b
    | _, _ => none
  | .unOp op _ x => match evalS st x with
    | some s => sPure1 P σ (Op.unary op) s
    | none => none
  | .convert S D x => match evalS st x with
    | some s => sConvert2 P σ S D s
    | none => none
  | .makeInterface T x => match evalS st x with
    | some s => sMakeIface P σ T s
    | none => none
  | .makeFunc f xs ys => match evalL st xs.toList, evalL st ys.toList with
    | some l, some m => some (.val (.fn f l m) σ)
    | _, _ => none
  | .makeMap _ none => some (.val (.map σ.next) (σ.push (.map [])))
  | .slice T x lo hi mx => match evalS st x, intO st lo, intO st hi, intO st mx with
    | some s, some a, some b, some c => sSlice P σ T s a b c
    | _, _, _, _ => none
  | .fieldAddr S x f => match evalS st x with
    | some s => sFieldAddr P σ S f s
    | none => none
  | .field S x f => match evalS st x with
    | some s => sField P σ S f s
    | none => none
  | .indexAddr T x i => match evalS st x, evalS st i with
    | some s, some t => sIndexAddr P σ T s t
    | _, _ => none
  | .index T x i => match evalS st x, evalS st i with
    | some s, some t => sIndex P σ T s t
    | _, _ => none
  | .extract x i => match evalS st x with
    | some s => sExtract σ i s
    | none => none
  | .makeSlice T x y => match evalS st x, evalS st y with
    | some a, some b => sMakeSlice P σ T a b
    | _, _ => none
  | .typeAssert x _ A ok => match evalS st x with
    | some s => sAssert P σ A ok s
    | none => none
  | .lookup T x k ok => match evalS st x, evalS st k with
    | some a, some b => match b with
      | .str l => sLookupStr P σ T ok a (.str l)
      | .int kd l => sLookupInt P σ T ok a (.int kd l)
      | b => sLookup P σ T ok a b
    | _, _ => none
  | .mapUpdate T x k v => match evalS st x, evalS st k, evalS st v with
    | some a, some b, some c => match b with
      | .str l => sMapUpdStr P σ T a (.str l) c
      | .int kd l => sMapUpdInt P σ T a (.int kd l) c
      | b => sMapUpd P σ T a b c
    | _, _, _ => none
  | .range T x => match evalS st x with
    | some s => sRange P σ T s
    | none => none
  | .next x b => match evalS st x with
    | some s => sNext P σ b s
    | none => none
  | .entry x => match evalS st x with
    | some s => sEntry σ s
    | none => none
  | .sliceToArrayPointer T x => match evalS st x with
    | some s => sArr P σ T s
    | none => none
  | .call c => sCallOp P st c σ
  | _ => none

theorem evalL_length {st : Row} : ∀ {xs : List Operand} {l : List SV}, evalL st xs = some l → l.length = xs.length := by
  intro xs
  induction xs with
  | nil => intro l h; simp only [evalL] at h; cases h; rfl
  | cons x r ih =>
    intro l h
    simp only [evalL] at h
    cases h1 : evalS st x with
    | none => rw [h1] at h; cases h
    | some s =>
      cases h2 : evalL st r with
      | none => rw [h1, h2] at h; cases h
      | some m => rw [h1, h2] at h; cases h; simp [ih h2]

theorem sOp_ok : OpSound P w0 (sOp P) := by
  intro st o σ r env a w hs ho h hf
  obtain ⟨d, op, ty, pos, af, g⟩ := o
  have E : ∀ {x : Operand} {s : SV}, evalS st x = some s → den env s = some (a.eval x) := fun hx => evalS_den hf.tmps hx
  unfold sOp at hs
  cases op <;> simp only at hs <;> try (cases hs; done)
  case move x =>
    split at hs
    · rename_i s hx
      cases hs; exact .same (by simp [execOp]) h (E hx)
    · cases hs
  case assign x =>
    split at hs
    · rename_i s hx
      cases hs; exact .same (by simp [execOp]) h (E hx)
    · cases hs
  case pick c x y =>
    split at hs
    · rename_i s t u hx hy hz
      exact sPick_ok h hs (E hx) (E hy) (E hz) d ty pos af g
    · cases hs
  case alloc T => exact sAlloc_ok ho h hs _ d ty pos af g
  case box T x =>
    split at hs
    · rename_i s hx
      cases hs; exact sBox_ok ho h (E hx) d ty pos af g
    · cases hs
  case build T parts =>
    split at hs
    · rename_i s hx
      exact sBuild_ok ho h hs (zipIx_1 (by rw [evalL_length hx]; simp)) (by rw [zipIx_2 (by rw [evalL_length hx]; simp), evalL_den hf.tmps hx, List.map_map]; rfl) d ty pos af g
    · cases hs
  case buildSlice T n parts =>
    split at hs
    · rename_i hx
      have hp : parts = #[] := by
        have := evalL_length hx
        simpa using this.symm
      subst hp
      split at hs
      · exact sBuildNone_ok ho h hs d ty pos af g
      · rename_i n
        exact sBuildSlice_ok ho h hs (by simp) (by simp only [List.map_nil, List.map]; rfl) d ty pos af g
    · rename_i s _ hx
      exact sBuildSlice_ok ho h hs (zipIx_1 (by rw [evalL_length hx]; simp)) (by rw [zipIx_2 (by rw [evalL_length hx]; simp), evalL_den hf.tmps hx, List.map_map]; rfl) d ty pos af g
    · cases hs
  case load T x =>
    split at hs
    · rename_i s hx
      exact sLoad_ok h hs (E hx) d ty pos af g
    · cases hs
  case store T x y =>
    split at hs
    · rename_i s t hx hy
      exact sStore_ok ho h hs (E hx) (E hy) d ty pos af g
    · cases hs
  case nilCheck x =>
    split at hs
    · rename_i s hx
      exact sNilCheck_ok h hs (E hx) d ty pos af g
    · cases hs
  case binOp op T x y B =>
    split at hs
    · rename_i s t hx hy
      exact sBinary_ok h hs (E hx) (E hy) d ty pos af g
    · cases hs
  case unOp op T x =>
    split at hs
    · rename_i s hx
      exact sUn_ok h hs (E hx) d ty pos af g
    · cases hs
  case convert S D x =>
    split at hs
    · rename_i s hx
      exact sConvert2_ok h hs (E hx) d ty pos af g
    · cases hs
  case makeInterface T x =>
    split at hs
    · rename_i s hx
      exact sMakeIface_ok h hs (E hx) d ty pos af g
    · cases hs
  case makeFunc f xs ys =>
    split at hs
    · rename_i l m hx hy
      cases hs; exact sMakeFunc_ok h (evalL_den hf.tmps hx) (evalL_den hf.tmps hy) d ty pos af g
    · cases hs
  case makeMap T r0 =>
    cases r0 with
    | none => simp only at hs; cases hs; exact sMakeMap_ok h d ty pos af g
    | some _ => simp only at hs; cases hs
  case slice T x lo hi mx =>
    split at hs
    · rename_i s p q u hx h1 h2 h3
      exact sSlice_ok h hs (E hx) (intO_ok hf h1) (intO_ok hf h2) (intO_ok hf h3) d ty pos af g
    · cases hs
  case fieldAddr S x f =>
    split at hs
    · rename_i s hx
      exact sFieldAddr_ok h hs (E hx) d ty pos af g
    · cases hs
  case field S x f =>
    split at hs
    · rename_i s hx
      exact sField_ok h hs (E hx) d ty pos af g
    · cases hs
  case indexAddr T x i =>
    split at hs
    · rename_i s t hx hy
      exact sIndexAddr_ok h hs (E hx) (E hy) d ty pos af g
    · cases hs
  case index T x i =>
    split at hs
    · rename_i s t hx hy
      exact sIndex_ok h hs (E hx) (E hy) d ty pos af g
    · cases hs
  case extract x i =>
    split at hs
    · rename_i s hx
      exact sExtract_ok h hs (E hx) d ty pos af g
    · cases hs
  case makeSlice T x y =>
    split at hs
    · rename_i s t hx hy
      exact sMakeSlice_ok ho h hs (E hx) (E hy) d ty pos af g
    · cases hs
  case typeAssert x X A ok =>
    split at hs
    · rename_i s hx
      exact sAssert_ok h hs (E hx) d ty pos af g
    · cases hs
  case lookup T x k ok =>
    split at hs
    · rename_i s t hx hy
      split at hs
      · exact sLookupStr_ok h hs (E hx) (E hy) d ty pos af g
      · exact sLookupInt_ok h hs (E hx) (E hy) d ty pos af g
      · exact sLookup_ok h hs (E hx) (E hy) d ty pos af g
    · cases hs
  case mapUpdate T x k v =>
    split at hs
    · rename_i s t u hx hy hz
      split at hs
      · exact sMapUpdStr_ok h hs (E hx) (E hy) (E hz) d ty pos af g
      · exact sMapUpdInt_ok h hs (E hx) (E hy) (E hz) d ty pos af g
      · exact sMapUpd_ok h hs (E hx) (E hy) (E hz) d ty pos af g
    · cases hs
  case range T x =>
    split at hs
    · rename_i s hx
      exact sRange_ok h hs (E hx) d ty pos af g
    · cases hs
  case next x b =>
    split at hs
    · rename_i s hx
      exact sNext_ok h hs (E hx) d ty pos af g
    · cases hs
  case entry x =>
    split at hs
    · rename_i s hx
      exact sEntry_ok h hs (E hx) d ty pos af g
    · cases hs
  case sliceToArrayPointer T x =>
    split at hs
    · rename_i s hx
      exact sArr_ok h hs (E hx) d ty pos af g
    · cases hs
  case call c => exact sCallOp_ok ho h hf hs d ty pos af g
end Go.Proofs.YthenjjonphoklaaGreatDoor
