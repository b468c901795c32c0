/-
  THE EXECUTOR, part Z: ranges over strings and over maps of at most one entry; maps with string keys; copy; slices as arrays.

  THE EXECUTOR, part ZI: maps with integers for keys.

  THE EXECUTOR, part M: regions, code, calls: over any sound way to do single operations and calls.

  THE EXECUTOR, part N: code and calls.

  A region that draws its order of evaluation, walked in the text's order alone.
  The operations' values hang on no order where a world law S stands: every operation, from whatever world that meets S, gives one and the same value and leaves a world that meets S.

  THE EXECUTOR, part O: all operations in one function.
-/
import Derived.Test.YtdkindollljlnabGreatDoorJ1
import Derived.MapKept
import Derived.Laws.StructEq
import Derived.Test.YtdkindollljlnabGreatDoorJ0
import Derived.Scope
import Derived.Orders
import Derived.Tactics
import Derived.KernelRfl
set_option linter.unusedSectionVars false
set_option linter.unusedSimpArgs false
set_option linter.unusedVariables false
namespace Go.Proofs.YtdkindollljlnabGreatDoor
open Go Go.RowKit
variable [Known]

variable {P : Program} {w0 : Base} {env : Env} {σ : SH} {w : World}

theorem beq_bytesOf (a b : List Nat) : (bytesOf a == bytesOf b) = eqBytes a b := by
  rw [beq_toListBytes, toList_data', toList_data', bytesOf_list, bytesOf_list, eqBytes_spec]

/-- A new block of whatever kind. -/
theorem Rel.newObj (h : Rel P w0 env σ w) {o : Obj} {so : SO} (ho : ∀ w' : World, w'.heap[w.heap.size]? = some o → ∀ env', env.le env' → ORel P env' w' w.heap.size 0 so) :
    Rel P w0 (env.push σ.next w.heap.size 0) (σ.push so) (w.alloc o) ∧ den (env.push σ.next w.heap.size 0) (.ptr σ.next 0) = some (.pointer (some ⟨w.heap.size, 0, none⟩)) := by
  refine ⟨h.push (ho _ (heap_alloc_new w o) _ (h.le_push _ _)), ?_⟩
  have h2 : (env.push σ.next w.heap.size 0).blocks σ.next = some (w.heap.size, 0) := Env.new _ _ _ _
  simp only [den, h2]

noncomputable def sRange (P : Program) (σ : SH) (T : TypeId) (x : SV) : Option SR := match P.underlying T with
  | some .string => match x with
    | .str l => some (.val (.ptr σ.next 0) (σ.push (.siter l 0)))
    | _ => none
  | some (.map _ _) => match x with
    | .nilm => some (.val (.ptr σ.next 0) (σ.push (.miter .nilm 0 [] 0)))
    | .map n => match σ.get n with
      | some (.map es) => some (.val (.ptr σ.next 0) (σ.push (.miter (.map n) es.length [] es.length)))
      | _ => none
    | _ => none
  | _ => none
theorem sRange_ok (h : Rel P w0 env σ w) {T : TypeId} {s : SV} {r : SR} (hs : sRange P σ T s = some r) {x : Operand} {ρ : Operand → Value} (hd : den env s = some (ρ x)) (d : Option Tmp) (ty : TypeId) (pos : String) (af : Array Edge) (g : Option (Nat × Bool)) :
    Outcome P w0 env ((execOp ρ ⟨d, .range T x, ty, pos, af, g⟩).run P w) r := by
  unfold sRange at hs
  split at hs
  · rename_i hu
    split at hs
    · rename_i l; cases hs
      simp only [den, Option.some.injEq] at hd
      obtain ⟨h1, h2⟩ := h.newObj (o := .stringIter (bytesOf l) 0) (so := .siter l 0) (fun w' hw' _ _ => hw')
      exact ⟨_, _, _, .inl (by simp [execOp, Instr.range, run_underlying hu, ← hd]), h.le_push _ _, h1, h2⟩
    · cases hs
  · rename_i kt et hu
    split at hs
    · cases hs
      simp only [den, Option.some.injEq] at hd
      obtain ⟨h1, h2⟩ := h.newObj (o := .mapIter none 0 #[] 0) (so := .miter .nilm 0 [] 0) (fun w' hw' _ _ => ⟨none, rfl, hw'⟩)
      exact ⟨_, _, _, .inl (by simp [execOp, Instr.range, run_underlying hu, ← hd]), h.le_push _ _, h1, h2⟩
    · rename_i n
      split at hs
      · rename_i es hn; cases hs
        obtain ⟨b, c, he, em⟩ := den_map hd
        obtain ⟨b', c', e1, hb, ents, clock, ks, vs, g1, g2, g3, g4, g5, g6, _⟩ := h.obj n _ hn
        rw [he] at e1; cases e1
        have hsz : clock = es.length := by
          have := denL_length g2
          rw [← g4] at this
          rw [g6]; simpa using this
        obtain ⟨h1, h2⟩ := h.newObj (o := .mapIter (some b) es.length #[] es.length) (so := .miter (.map n) es.length [] es.length) (fun w' hw' env' hle => ⟨some b, by simp only [den, hle.some n _ he], hw'⟩)
        exact ⟨_, _, _, .inl (by simp [execOp, Instr.range, run_underlying hu, em, run_getObj_map g1, hsz]), h.le_push _ _, h1, h2⟩
      · cases hs
    · cases hs
  · cases hs

theorem decode_ascii (l : List Nat) (pos b : Nat) (hb : l[pos]? = some b) (h : b < 128) : Utf8.decode (bytesOf l) pos = (b, 1) := by
  have hlt : pos < l.length := (List.getElem?_eq_some_iff.1 hb).1
  have e : (bytesOf l).get! pos = UInt8.ofNat b := by
    have hdat : (bytesOf l).data[pos]? = some (UInt8.ofNat b) := by unfold bytesOf; simp [hb]
    show (bytesOf l).data[pos]! = _
    rw [Array.getElem!_eq_getD, Array.getD_eq_getD_getElem?, hdat]; rfl
  have e2 : ((bytesOf l).get! (pos + 0)).toNat = b := by
    rw [Nat.add_zero, e]
    simp; omega
  unfold Utf8.decode
  simp only [e2]
  rw [if_pos (by omega)]

noncomputable def sNext (P : Program) (σ : SH) (isString : Bool) : SV → Option SR
  | .ptr n 0 => match σ.get n, isString with
    | some (.siter l pos), true => match l[pos]? with
      | some b => if b < 128 then some (.val (.tuple [.bool true, .int .i64 (pos : Nat), .int .i32 (b : Nat)]) (σ.put n (some (.siter l (pos + 1))))) else none
      | none => some (.val (.tuple [.bool false]) σ)
    | some (.miter .nilm _ _ _), false => some (.val (.tuple [.bool false]) σ)
    | some (.miter (.map m) since seen last), false => match σ.get m with
      | some (.map []) => some (.val (.tuple [.bool false]) σ)
      | some (.map [(k, v)]) => match since, seen, last with
        | 1, [], 1 => some (.val (.tuple [.bool true, k, v]) (σ.put n (some (.miter (.map m) 1 [0] 1))))
        | 1, [0], 1 => some (.val (.tuple [.bool false]) σ)
        | _, _, _ => none
      | _ => none
    | _, _ => none
  | _ => none
theorem den_triple {s t u : SV} {x y z : Value} (h1 : den env s = some x) (h2 : den env t = some y) (h3 : den env u = some z) : den env (.tuple [s, t, u]) = some (.tuple #[x, y, z]) := by
  simp only [den, denL, h1, h2, h3]
def notRow : Obj → Bool
  | .cells _ _ _ => false
  | _ => true
theorem run_getObj_any {r : Nat} {o : Obj} (hb : w.heap[r]? = some o) (hn : notRow o = true := by rfl) : (getObj r).run P w = .ok o w := by cases o <;> first | (cases hn; done) | simp [getObj, Sem.run, hb]
theorem run_setObj_any {r : Nat} {o : Obj} (o' : Obj) (hb : w.heap[r]? = some o) (hn : notRow o = true := by rfl) : (setObj r o').run P w = .ok () { w with heap := w.heap.setIfInBounds r o' } := by cases o <;> first | (cases hn; done) | simp [setObj, Sem.run, hb]
theorem Rel.setObj {n b c : Nat} {so so' : SO} {o o' : Obj} (h : Rel P w0 env σ w) (hn : σ.get n = some so) (he : env.blocks n = some (b, c)) (hb : w.heap[b]? = some o) (ho : ∀ w' : World, w'.heap[b]? = some o' → ORel P env w' b c so') :
    Rel P w0 env (σ.put n (some so')) { w with heap := w.heap.setIfInBounds b o' } := by
  have hblt : b < w.heap.size := (Array.getElem?_eq_some_iff.1 hb).1
  exact h.put hn he rfl rfl rfl (by simp) (fun q hq hne => by simp [Array.getElem?_setIfInBounds_ne (Ne.symm hne)]) (fun x hx => by cases hx; exact ho _ (by simp [hblt]))
theorem forced_one : (Question.mapNext 1).forced = true := by first | rfl | decide
theorem one_entry {k v : SV} {ents : Array MapEntry} {ks vs : List Value} (g2 : denL env ([(k, v)].map (·.1)) = some ks) (g3 : denL env ([(k, v)].map (·.2)) = some vs) (g4 : ents.toList.map (·.key) = ks) (g5 : ents.toList.map (·.val) = vs)
    (g7 : ∀ (i : Nat) (x : MapEntry), ents[i]? = some x → x.born = i) : ∃ e, ents = #[e] ∧ den env k = some e.key ∧ den env v = some e.val ∧ e.born = 0 := by
  subst g4; subst g5
  have hl := denL_length g2
  obtain ⟨l⟩ := ents
  match l, hl with
  | [e], _ =>
    obtain ⟨a, b, d1, d2, e1⟩ := denL_cons g2
    obtain ⟨a', b', d1', d2', e1'⟩ := denL_cons g3
    simp only [List.map_cons, List.map_nil, List.cons.injEq] at e1 e1'
    obtain ⟨rfl, _⟩ := e1
    obtain ⟨rfl, _⟩ := e1'
    exact ⟨e, rfl, d1, d1', g7 0 e rfl⟩
theorem no_entry {ents : Array MapEntry} {ks : List Value} (g2 : denL env (([] : List (SV × SV)).map (·.1)) = some ks) (g4 : ents.toList.map (·.key) = ks) : ents = #[] := by
  subst g4
  have hl := denL_length g2
  obtain ⟨l⟩ := ents
  match l, hl with
  | [], _ => rfl
theorem sNext_ok (h : Rel P w0 env σ w) {isString : Bool} {s : SV} {r : SR} (hs : sNext P σ isString s = some r) {x : Operand} {ρ : Operand → Value} (hd : den env s = some (ρ x)) (d : Option Tmp) (ty : TypeId) (pos : String) (af : Array Edge) (g : Option (Nat × Bool)) :
    Outcome P w0 env ((execOp ρ ⟨d, .next x isString, ty, pos, af, g⟩).run P w) r := by
  unfold sNext at hs
  split at hs
  · rename_i n
    obtain ⟨bi, ci, hei, hvi⟩ := den_ptr hd
    split at hs
    · rename_i l p hn
      obtain ⟨b', c', e1, hb, g1⟩ := h.obj n _ hn
      rw [hei] at e1; cases e1
      have g1 : w.heap[bi]? = some (.stringIter (bytesOf l) p) := g1
      split at hs
      · rename_i b hlb
        split at hs
        · rename_i hb128; cases hs
          have hlt : p < l.length := (List.getElem?_eq_some_iff.1 hlb).1
          have hr := h.setObj (o' := .stringIter (bytesOf l) (p + 1)) (so' := .siter l (p + 1)) hn hei g1 (fun w' hw' => hw')
          have hp : p < (bytesOf l).size := by rw [bytesOf_size]; exact hlt
          exact ⟨env, .tuple #[.bool true, .int .i64 (p : Nat), .int .i32 (b : Nat)], _, .inl (by simp [execOp, Instr.next, hvi, run_getObj_any g1, hp, decode_ascii l p b hlb hb128, run_setObj_any _ g1, goInt]), Env.le_refl _, hr, den_triple rfl rfl rfl⟩
        · cases hs
      · rename_i hlb; cases hs
        have hp : ¬ p < (bytesOf l).size := by rw [bytesOf_size]; exact Nat.not_lt.2 (List.getElem?_eq_none_iff.1 hlb)
        exact .same (v := .tuple #[.bool false]) (by simp [execOp, Instr.next, hvi, run_getObj_any g1, hp]) h rfl
    · rename_i since seen last hn; cases hs
      obtain ⟨b', c', e1, hb, r0, g0, g1⟩ := h.obj n _ hn
      rw [hei] at e1; cases e1
      simp only [den, Option.some.injEq] at g0; cases g0
      exact .same (v := .tuple #[.bool false]) (by simp [execOp, Instr.next, hvi, run_getObj_any g1]) h rfl
    · rename_i m since seen last hn
      obtain ⟨b', c', e1, hb, r0, g0, g1⟩ := h.obj n _ hn
      rw [hei] at e1; cases e1
      obtain ⟨bm, cm, hem, er0⟩ := den_map g0
      cases er0
      split at hs
      · rename_i hm; cases hs
        obtain ⟨b', c', e1, hb', ents, clock, ks, vs, q1, q2, q3, q4, q5, q6, q7⟩ := h.obj m _ hm
        rw [hem] at e1; cases e1
        obtain rfl := no_entry q2 q4
        exact .same (v := .tuple #[.bool false]) (by simp [execOp, Instr.next, hvi, run_getObj_any g1, run_getObj_map q1, forced_one]) h rfl
      · rename_i k v hm
        obtain ⟨b', c', e1, hb', ents, clock, ks, vs, q1, q2, q3, q4, q5, q6, q7⟩ := h.obj m _ hm
        rw [hem] at e1; cases e1
        obtain ⟨e, rfl, dk, dv, hborn⟩ := one_entry q2 q3 q4 q5 q7
        obtain rfl : clock = 1 := q6
        split at hs
        · cases hs
          have hr := h.setObj (o' := .mapIter (some bm) 1 #[0] 1) (so' := .miter (.map m) 1 [0] 1) hn hei g1 (fun w' hw' => ⟨_, g0, hw'⟩)
          exact ⟨env, .tuple #[.bool true, e.key, e.val], _, .inl (by simp [execOp, Instr.next, hvi, run_getObj_any g1, run_getObj_map q1, hborn, forced_one, run_setObj_any _ g1]), Env.le_refl _, hr, den_triple rfl dk dv⟩
        · cases hs
          exact .same (v := .tuple #[.bool false]) (by simp [execOp, Instr.next, hvi, run_getObj_any g1, run_getObj_map q1, hborn, forced_one]) h rfl
        · cases hs
      · cases hs
    · cases hs
  · cases hs

noncomputable def sEntry (σ : SH) : SV → Option SR
  | .ptr n 0 => match σ.get n with
    | some (.miter (.map m) 1 [0] 1) => match σ.get m with
      | some (.map [(k, v)]) => some (.val (.tuple [k, v]) σ)
      | _ => none
    | _ => none
  | _ => none
theorem sEntry_ok (h : Rel P w0 env σ w) {s : SV} {r : SR} (hs : sEntry σ s = some r) {x : Operand} {ρ : Operand → Value} (hd : den env s = some (ρ x)) (d : Option Tmp) (ty : TypeId) (pos : String) (af : Array Edge) (g : Option (Nat × Bool)) :
    Outcome P w0 env ((execOp ρ ⟨d, .entry x, ty, pos, af, g⟩).run P w) r := by
  unfold sEntry at hs
  split at hs
  · rename_i n
    obtain ⟨bi, ci, hei, hvi⟩ := den_ptr hd
    split at hs
    · rename_i m hn
      obtain ⟨b', c', e1, hb, r0, g0, g1⟩ := h.obj n _ hn
      rw [hei] at e1; cases e1
      obtain ⟨bm, cm, hem, er0⟩ := den_map g0
      cases er0
      split at hs
      · rename_i k v hm; cases hs
        obtain ⟨b', c', e1, hb', ents, clock, ks, vs, q1, q2, q3, q4, q5, q6, q7⟩ := h.obj m _ hm
        rw [hem] at e1; cases e1
        obtain ⟨e, rfl, dk, dv, hborn⟩ := one_entry q2 q3 q4 q5 q7
        obtain rfl : clock = 1 := q6
        exact .same (v := .tuple #[e.key, e.val]) (by simp [execOp, Instr.entry, hvi, run_getObj_any g1, run_getObj_map q1, hborn]) h (den_pair dk dv)
      · cases hs
    · cases hs
  · cases hs

/-- Where a string key stands. -/
noncomputable def sFindStr (k : List Nat) : List (SV × SV) → Nat → Option (Option (Nat × SV))
  | [], _ => some none
  | (.str l, v) :: r, i => if eqBytes k l then some (some (i, v)) else sFindStr k r (i + 1)
  | _ :: _, _ => none
theorem sFindStr_ok {k : List Nat} : ∀ (es : List (SV × SV)) (ents : List MapEntry) (i : Nat) (res : Option (Nat × SV)), sFindStr k es i = some res →
    denL env (es.map (·.1)) = some (ents.map (·.key)) → denL env (es.map (·.2)) = some (ents.map (·.val)) →
    match res with
    | none => Instr.findNow .string (.string (bytesOf k)) ents i = some none
    | some (j, s) => ∃ v e, den env s = some v ∧ Instr.findNow .string (.string (bytesOf k)) ents i = some (some (j, v)) ∧ i ≤ j ∧ ents[j - i]? = some e ∧ e.key = .string (bytesOf k) := by
  intro es
  induction es with
  | nil =>
    intro ents i res h h1 h2
    simp only [sFindStr] at h; cases h
    have : ents = [] := by
      have := denL_length h1
      simpa using this
    subst this
    simp [Instr.findNow]
  | cons x r ih =>
    intro ents i0 res h h1 h2
    obtain ⟨ks, vs⟩ := x
    cases ents with
    | nil => have := denL_length h1; simp at this
    | cons e er =>
      simp only [List.map_cons] at h1 h2
      obtain ⟨a, b, d1, d2, e1⟩ := denL_cons h1
      obtain ⟨a', b', d1', d2', e1'⟩ := denL_cons h2
      simp only [List.cons.injEq] at e1 e1'
      obtain ⟨rfl, rfl⟩ := e1
      obtain ⟨rfl, rfl⟩ := e1'
      obtain ⟨i1, hi1⟩ : ∃ i1, i1 = i0 := ⟨_, rfl⟩
      unfold sFindStr at h
      split at h
      · rename_i heq; cases heq
      · rename_i l v r' heq
        simp only [List.cons.injEq, Prod.mk.injEq] at heq
        obtain ⟨⟨rfl, rfl⟩, rfl⟩ := heq
        simp only [den, Option.some.injEq] at d1
        have hs : Instr.sameNow .string (.string (bytesOf k)) e.key = some (eqBytes k l) := by rw [← d1]; simp [Instr.sameNow, beq_bytesOf]
        split at h
        · rename_i ht; cases h
          refine ⟨_, e, d1', by simp [Instr.findNow, hs, ht], Nat.le_refl _, by simp, ?_⟩
          rw [← d1]
          have := beq_bytesOf k l
          rw [ht] at this
          rw [beq_toListBytes] at this
          have := eq_of_beq this
          rw [toList_data', toList_data'] at this
          have : bytesOf l = bytesOf k := by
            have e2 : (bytesOf l).data = (bytesOf k).data := Array.ext' this.symm
            calc bytesOf l = ⟨(bytesOf l).data⟩ := rfl
              _ = ⟨(bytesOf k).data⟩ := by rw [e2]
          rw [this]
        · rename_i ht
          have ht : eqBytes k l = false := by simpa using ht
          rw [ht] at hs
          have := ih er _ res h d2 d2'
          cases res with
          | none => simpa [Instr.findNow, hs] using this
          | some js =>
            obtain ⟨j, s⟩ := js
            obtain ⟨v', e', hv', hrun, hle, hget, hkey⟩ := this
            refine ⟨v', e', hv', by simpa [Instr.findNow, hs] using hrun, by omega, ?_, hkey⟩
            rw [← hi1] at hget hle ⊢
            have : j - i1 = (j - (i1 + 1)) + 1 := by omega
            rw [this]; simpa using hget
      · cases h

theorem check_str {kt : TypeId} (hk : P.underlying kt = some .string) (s : ByteArray) (em : Bool) (w : World) : (Instr.checkKey em 10000 kt (.string s)).run P w = .ok () w :=
  Go.MapKept.run_checkKey hk (k := .string s) trivial em 9999

noncomputable def sLookupStr (P : Program) (σ : SH) (T : TypeId) (ok : Bool) (m k : SV) : Option SR := match P.underlying T, k with
  | some (.map kt et), .str l => match P.underlying kt with
    | some .string => (match m with
      | .map n => match σ.get n with
        | some (.map es) => match sFindStr l es 0, szero P et with
          | some (some (_, v)), some _ => some (.val (if ok then .tuple [v, .bool true] else v) σ)
          | some none, some z => some (.val (if ok then .tuple [z, .bool false] else z) σ)
          | _, _ => none
        | _ => none
      | .nilm => match szero P et with
        | some z => some (.val (if ok then .tuple [z, .bool false] else z) σ)
        | none => none
      | _ => none)
    | _ => none
  | _, _ => none
theorem sLookupStr_ok (h : Rel P w0 env σ w) {T : TypeId} {ok : Bool} {s t : SV} {r : SR} (hs : sLookupStr P σ T ok s t = some r) {x y : Operand} {ρ : Operand → Value} (h1 : den env s = some (ρ x)) (h2 : den env t = some (ρ y)) (d : Option Tmp) (ty : TypeId) (pos : String) (af : Array Edge) (g : Option (Nat × Bool)) :
    Outcome P w0 env ((execOp ρ ⟨d, .lookup T x y ok, ty, pos, af, g⟩).run P w) r := by
  unfold sLookupStr at hs
  split at hs
  · rename_i kt et l hu
    simp only [den, Option.some.injEq] at h2
    split at hs
    · rename_i hk
      have hck : ∀ em w, (Instr.checkKey em 10000 kt (ρ y)).run P w = .ok () w := fun em w => by rw [← h2]; exact check_str hk _ em w
      split at hs
      · rename_i n
        split at hs
        · rename_i es hn
          obtain ⟨b, c, he, em⟩ := den_map h1
          obtain ⟨b', c', e1, hb, ents, clock, ks, vs, g1, g2, g3, g4, g5, _⟩ := h.obj n _ hn
          rw [he] at e1; cases e1
          subst g4; subst g5
          split at hs
          · rename_i j v z hf hz; cases hs
            obtain ⟨u, e, hu2, hrun, _⟩ := sFindStr_ok es ents.toList 0 _ hf g2 g3
            have hrun := Go.MapKept.run_findKey (P := P) (w := w) hk hrun
            rw [h2] at hrun
            cases ok with
            | true => exact .same (v := .tuple #[u, .bool true]) (by simp [execOp, Instr.lookup, run_underlying hu, em, run_getObj_map g1, hck, hrun]) h (den_pair hu2 rfl)
            | false => exact .same (v := u) (by simp [execOp, Instr.lookup, run_underlying hu, em, run_getObj_map g1, hck, hrun]) h hu2
          · rename_i z hf hz; cases hs
            have hrun := sFindStr_ok es ents.toList 0 _ hf g2 g3
            simp only at hrun
            have hrun := Go.MapKept.run_findKey (P := P) (w := w) hk hrun
            rw [h2] at hrun
            obtain ⟨zv, hdz, hzr⟩ := szero_ok (env := env) hz
            cases ok with
            | true => exact .same (v := .tuple #[zv, .bool false]) (by simp [execOp, Instr.lookup, run_underlying hu, em, run_getObj_map g1, hck, hrun, hzr]) h (den_pair hdz rfl)
            | false => exact .same (v := zv) (by simp [execOp, Instr.lookup, run_underlying hu, em, run_getObj_map g1, hck, hrun, hzr]) h hdz
          · cases hs
        · cases hs
      · split at hs
        · rename_i z hz; cases hs
          simp only [den, Option.some.injEq] at h1
          obtain ⟨zv, hdz, hzr⟩ := szero_ok (env := env) hz
          have k3 : (Instr.findKey kt (ρ y) []).run P w = .ok none w := Go.MapKept.run_findKey hk rfl
          cases ok with
          | true => exact .same (v := .tuple #[zv, .bool false]) (by simp [execOp, Instr.lookup, run_underlying hu, ← h1, hck, k3, hzr]) h (den_pair hdz rfl)
          | false => exact .same (v := zv) (by simp [execOp, Instr.lookup, run_underlying hu, ← h1, hck, k3, hzr]) h hdz
        · cases hs
      · cases hs
    · cases hs
  · cases hs

noncomputable def sMapUpdStr (P : Program) (σ : SH) (T : TypeId) (m k v : SV) : Option SR := match P.underlying T, m, k with
  | some (.map kt _), .map n, .str l => match P.underlying kt with
    | some .string => (match σ.get n with
      | some (.map es) => match sFindStr l es 0 with
        | some none => some (.val .undef (σ.put n (some (.map (es ++ [(.str l, v)])))))
        | some (some (j, _)) => some (.val .undef (σ.put n (some (.map (es.set j (.str l, v))))))
        | none => none
      | _ => none)
    | _ => none
  | _, _, _ => none
theorem sMapUpdStr_ok (h : Rel P w0 env σ w) {T : TypeId} {s t u : SV} {r : SR} (hs : sMapUpdStr P σ T s t u = some r) {x y z : Operand} {ρ : Operand → Value} (h1 : den env s = some (ρ x)) (h2 : den env t = some (ρ y)) (h3 : den env u = some (ρ z)) (d : Option Tmp) (ty : TypeId) (pos : String) (af : Array Edge) (g : Option (Nat × Bool)) :
    Outcome P w0 env ((execOp ρ ⟨d, .mapUpdate T x y z, ty, pos, af, g⟩).run P w) r := by
  unfold sMapUpdStr at hs
  split at hs
  · rename_i kt et n l hu
    have h2' := h2
    simp only [den, Option.some.injEq] at h2
    split at hs
    · rename_i hk
      have hck : ∀ em w, (Instr.checkKey em 10000 kt (ρ y)).run P w = .ok () w := fun em w => by rw [← h2]; exact check_str hk _ em w
      split at hs
      · rename_i es hn
        obtain ⟨b, c, he, em⟩ := den_map h1
        obtain ⟨b', c', e1, hb, ents, clock, ks, vs, g1, g2, g3, g4, g5, g6, g7⟩ := h.obj n _ hn
        rw [he] at e1; cases e1
        subst g4; subst g5
        split at hs
        · rename_i hf; cases hs
          have hrun := sFindStr_ok es ents.toList 0 _ hf g2 g3
          simp only at hrun
          have hrun := Go.MapKept.run_findKey (P := P) (w := w) hk hrun
          rw [h2] at hrun
          refine ⟨env, undef, { w with heap := w.heap.setIfInBounds b (.map (ents.push { key := ρ y, val := ρ z, born := clock }) (clock + 1)) }, .inr ⟨by simp [execOp, Instr.mapUpdate, run_underlying hu, em, run_getObj_map g1, hck, hrun, run_setObj_any _ g1], rfl⟩, Env.le_refl _, h.setObj hn he g1 (fun w' hw' => ?_), by simp only [den]⟩
          refine ⟨ents.push { key := ρ y, val := ρ z, born := clock }, clock + 1, ents.toList.map (·.key) ++ [ρ y], ents.toList.map (·.val) ++ [ρ z], hw', ?_, ?_, by simp, by simp, by simp [g6], fun i e hi => ?_⟩
          · rw [List.map_append]
            exact denL_append g2 (denL_mk h2' rfl)
          · rw [List.map_append]
            exact denL_append g3 (denL_mk h3 rfl)
          · rw [Array.getElem?_push] at hi
            split at hi
            · rename_i hie; cases hi; simp [g6, hie]
            · exact g7 i e hi
        · rename_i j q hf; cases hs
          obtain ⟨v, e, hv, hrun, _, hget, hkey⟩ := sFindStr_ok es ents.toList 0 _ hf g2 g3
          rw [Nat.sub_zero] at hget
          have hrun := Go.MapKept.run_findKey (P := P) (w := w) hk hrun
          rw [h2] at hrun hkey
          have hgA : ents[j]? = some e := by simpa using hget
          have hst : (Instr.keyThatStays e.key (ρ y)).run P w = .ok (ρ y) w := by
            rw [hkey, ← h2]
            exact Go.MapKept.run_keyThatStays (d := .string) (k := .string (bytesOf l)) trivial
          have hjlt : j < ents.size := (Array.getElem?_eq_some_iff.1 hgA).1
          refine ⟨env, undef, { w with heap := w.heap.setIfInBounds b (.map (ents.modify j fun e => { e with key := ρ y, val := ρ z }) clock) }, .inr ⟨by simp [execOp, Instr.mapUpdate, run_underlying hu, em, run_getObj_map g1, hck, hrun, hgA, hst, run_setObj_any _ g1], rfl⟩, Env.le_refl _, h.setObj hn he g1 (fun w' hw' => ?_), by simp only [den]⟩
          have hmod : (ents.modify j fun e => { e with key := ρ y, val := ρ z }).toList = ents.toList.set j { e with key := ρ y, val := ρ z } := by
            apply List.ext_getElem?
            intro i
            rw [Array.getElem?_toList, Array.getElem?_modify, List.getElem?_set]
            split
            · rename_i hij; subst hij
              have hej : ents[j] = e := (Array.getElem?_eq_some_iff.1 hgA).2
              simp [hgA, hjlt, hej]
            · simp
          refine ⟨_, clock, (ents.toList.map (·.key)).set j (ρ y), (ents.toList.map (·.val)).set j (ρ z), hw', ?_, ?_, by rw [hmod, List.map_set], by rw [hmod, List.map_set], by rw [g6]; simp, fun i x hi => ?_⟩
          · rw [List.map_set]
            exact denL_set g2 h2'
          · rw [List.map_set]
            exact denL_set g3 h3
          · rw [Array.getElem?_modify] at hi
            split at hi
            · rename_i hij; subst hij
              rw [hgA] at hi
              simp only [Option.map_some, Option.some.injEq] at hi
              subst hi
              exact g7 j e hgA
            · exact g7 i x hi
        · cases hs
      · cases hs
    · cases hs
  · cases hs

/-- A slice as an array. -/
noncomputable def sArr (P : Program) (σ : SH) (T : TypeId) (x : SV) : Option SR := match P.underlying T, x with
  | some (.array k _), .slice n off len _ => if k ≤ len then some (.val (.ptr n off) σ) else none
  | _, _ => none
theorem sArr_ok (h : Rel P w0 env σ w) {T : TypeId} {s : SV} {r : SR} (hs : sArr P σ T s = some r) {x : Operand} {ρ : Operand → Value} (hd : den env s = some (ρ x)) (d : Option Tmp) (ty : TypeId) (pos : String) (af : Array Edge) (g : Option (Nat × Bool)) :
    Outcome P w0 env ((execOp ρ ⟨d, .sliceToArrayPointer T x, ty, pos, af, g⟩).run P w) r := by
  unfold sArr at hs
  split at hs
  · rename_i k e n off len c hu
    split at hs
    · rename_i hk; cases hs
      obtain ⟨b, q, he, hv⟩ := den_slice hd
      have : ¬ len < k := by omega
      exact .same (v := .pointer (some ⟨b, off, none⟩)) (by simp [execOp, Instr.arrayAt, run_underlying hu, hv, this]) h (by simp only [den, he])
    · cases hs
  · cases hs

/-- copy, where all that there is goes in. -/
noncomputable def sCopy (P : Program) (σ : SH) (T T' : TypeId) (s x : SV) : Option (SV × SH) := match P.underlying T with
  | some (.slice e) => match ssize P e with
    | some z => match s, sGift P σ T' z x with
      | .slice n off len _, some (m, news) => match σ.get n with
        | some (.cells l e' ex) => if decide (m ≤ len) && decide (off + (lenR news) ≤ (lenR l)) && (allR oneS news) then
            some (.int .i64 (m : Nat), σ.put n (some (.cells (patch l off news) e' ex))) else none
        | _ => none
      | .nils, some (0, _) => some (.int .i64 (0 : Nat), σ)
      | _, _ => none
    | none => none
  | _ => none
theorem sCopy_ok (ho : env.ones) (h : Rel P w0 env σ w) {T T' ty : TypeId} {s x q : SV} {σ' : SH} (hs : sCopy P σ T T' s x = some (q, σ')) {v u : Value} (hd : den env s = some v) (hx : den env x = some u) :
    ∃ v' w', (Builtin.copy_ #[T, T'] ty #[v, u]).run P w = .ok v' w' ∧ Rel P w0 env σ' w' ∧ den env q = some v' := by
  unfold sCopy at hs
  simp only [lenR_eq, takeR_eq, dropR_eq, appR_eq, allR_eq, mapR_eq] at hs
  split at hs
  · rename_i e ht
    split at hs
    · rename_i z hz
      split at hs
      · rename_i n off len c m news hg
        obtain ⟨D, vn, hD, hdn, hln, gift⟩ := sGift_ok h hg hx
        split at hs
        · rename_i l e' ex hn
          split at hs
          · rename_i hh; cases hs
            simp only [Bool.and_eq_true, decide_eq_true_eq] at hh
            obtain ⟨⟨h1, h2⟩, h3⟩ := hh
            obtain ⟨b, k, he, rfl⟩ := den_slice hd
            obtain ⟨r1, r2⟩ := h.setCells ho hn he h2 h3 hdn
            have hmin : Nat.min m len = m := Nat.min_eq_left h1
            exact ⟨.int .i64 (m : Nat), _, by simp [Builtin.copy_, run_underlying ht, gift.len, hmin, ssize_ok hz, gift.cells, r1, goInt], r2, rfl⟩
          · cases hs
        · cases hs
      · rename_i nw hg; cases hs
        obtain ⟨D, vn, hD, hdn, hln, gift⟩ := sGift_ok h hg hx
        simp only [den, Option.some.injEq] at hd; subst hd
        have hc := gift.cells
        exact ⟨.int .i64 (0 : Nat), w, by simp [Builtin.copy_, run_underlying ht, gift.len, ssize_ok hz, hc, goInt], h, rfl⟩
      · cases hs
    · cases hs
  · cases hs
end Go.Proofs.YtdkindollljlnabGreatDoor

namespace Go.Proofs.YtdkindollljlnabGreatDoor
open Go Go.RowKit
variable [Known]

variable {P : Program} {w0 : Base} {env : Env} {σ : SH} {w : World}

/-- Where an integer key stands. -/
noncomputable def sFindInt (kd : IntKind) (k : Int) : List (SV × SV) → Nat → Option (Option (Nat × SV))
  | [], _ => some none
  | (.int k' n, v) :: r, i => if kd = k' then (if iEq k n then some (some (i, v)) else sFindInt kd k r (i + 1)) else none
  | _ :: _, _ => none
theorem sFindInt_ok {kt kd : IntKind} {k : Int} : ∀ (es : List (SV × SV)) (ents : List MapEntry) (i : Nat) (res : Option (Nat × SV)), sFindInt kd k es i = some res →
    denL env (es.map (·.1)) = some (ents.map (·.key)) → denL env (es.map (·.2)) = some (ents.map (·.val)) →
    match res with
    | none => Instr.findNow (.int kt) (.int kd k) ents i = some none
    | some (j, s) => ∃ v e, den env s = some v ∧ Instr.findNow (.int kt) (.int kd k) ents i = some (some (j, v)) ∧ i ≤ j ∧ ents[j - i]? = some e ∧ e.key = .int kd k := by
  intro es
  induction es with
  | nil =>
    intro ents i res h h1 h2
    simp only [sFindInt] at h; cases h
    have : ents = [] := by
      have := denL_length h1
      simpa using this
    subst this
    simp [Instr.findNow]
  | cons x r ih =>
    intro ents i0 res h h1 h2
    obtain ⟨ks, vs⟩ := x
    cases ents with
    | nil => have := denL_length h1; simp at this
    | cons e er =>
      simp only [List.map_cons] at h1 h2
      obtain ⟨a, b, d1, d2, e1⟩ := denL_cons h1
      obtain ⟨a', b', d1', d2', e1'⟩ := denL_cons h2
      simp only [List.cons.injEq] at e1 e1'
      obtain ⟨rfl, rfl⟩ := e1
      obtain ⟨rfl, rfl⟩ := e1'
      obtain ⟨i1, hi1⟩ : ∃ i1, i1 = i0 := ⟨_, rfl⟩
      unfold sFindInt at h
      split at h
      · rename_i heq; cases heq
      · rename_i k' n v r' heq
        simp only [List.cons.injEq, Prod.mk.injEq] at heq
        obtain ⟨⟨rfl, rfl⟩, rfl⟩ := heq
        simp only [den, Option.some.injEq] at d1
        split at h
        · rename_i hk; subst hk
          have hs : Instr.sameNow (.int kt) (.int kd k) e.key = some (k == n) := by rw [← d1]; simp [Instr.sameNow]
          rw [iEq_eq] at h
          split at h
          · rename_i ht; cases h
            refine ⟨_, e, d1', by simp [Instr.findNow, hs, ht], Nat.le_refl _, by simp, ?_⟩
            rw [← d1, eq_of_beq ht]
          · rename_i ht
            have ht : (k == n) = false := by simpa using ht
            rw [ht] at hs
            have := ih er _ res h d2 d2'
            cases res with
            | none => simpa [Instr.findNow, hs] using this
            | some js =>
              obtain ⟨j, s⟩ := js
              obtain ⟨v', e', hv', hrun, hle, hget, hkey⟩ := this
              refine ⟨v', e', hv', by simpa [Instr.findNow, hs] using hrun, by omega, ?_, hkey⟩
              rw [← hi1] at hget hle ⊢
              have : j - i1 = (j - (i1 + 1)) + 1 := by omega
              rw [this]; simpa using hget
        · cases h
      · cases h

theorem check_int {kt : TypeId} {kd : IntKind} (hk : P.underlying kt = some (.int kd)) (n : Int) (em : Bool) (w : World) : (Instr.checkKey em 10000 kt (.int kd n)).run P w = .ok () w :=
  Go.MapKept.run_checkKey hk (k := .int kd n) rfl em 9999

noncomputable def sLookupInt (P : Program) (σ : SH) (T : TypeId) (ok : Bool) (m k : SV) : Option SR := match P.underlying T, k with
  | some (.map kt et), .int kd l => match P.underlying kt with
    | some (.int kt') => if kd = kt' then (match m with
      | .map n => match σ.get n with
        | some (.map es) => match sFindInt kd l es 0, szero P et with
          | some (some (_, v)), some _ => some (.val (if ok then .tuple [v, .bool true] else v) σ)
          | some none, some z => some (.val (if ok then .tuple [z, .bool false] else z) σ)
          | _, _ => none
        | _ => none
      | .nilm => match szero P et with
        | some z => some (.val (if ok then .tuple [z, .bool false] else z) σ)
        | none => none
      | _ => none) else none
    | _ => none
  | _, _ => none
theorem sLookupInt_ok (h : Rel P w0 env σ w) {T : TypeId} {ok : Bool} {s t : SV} {r : SR} (hs : sLookupInt P σ T ok s t = some r) {x y : Operand} {ρ : Operand → Value} (h1 : den env s = some (ρ x)) (h2 : den env t = some (ρ y)) (d : Option Tmp) (ty : TypeId) (pos : String) (af : Array Edge) (g : Option (Nat × Bool)) :
    Outcome P w0 env ((execOp ρ ⟨d, .lookup T x y ok, ty, pos, af, g⟩).run P w) r := by
  unfold sLookupInt at hs
  split at hs
  · rename_i kt et kd l hu
    simp only [den, Option.some.injEq] at h2
    split at hs
    · rename_i kt' hk
      split at hs
      rotate_left
      · cases hs
      rename_i hkk; subst hkk
      have hck : ∀ em w, (Instr.checkKey em 10000 kt (ρ y)).run P w = .ok () w := fun em w => by rw [← h2]; exact check_int hk _ em w
      split at hs
      · rename_i n
        split at hs
        · rename_i es hn
          obtain ⟨b, c, he, em⟩ := den_map h1
          obtain ⟨b', c', e1, hb, ents, clock, ks, vs, g1, g2, g3, g4, g5, _⟩ := h.obj n _ hn
          rw [he] at e1; cases e1
          subst g4; subst g5
          split at hs
          · rename_i j v z hf hz; cases hs
            obtain ⟨u, e, hu2, hrun, _⟩ := sFindInt_ok (kt := kd) es ents.toList 0 _ hf g2 g3
            have hrun := Go.MapKept.run_findKey (P := P) (w := w) hk hrun
            rw [h2] at hrun
            cases ok with
            | true => exact .same (v := .tuple #[u, .bool true]) (by simp [execOp, Instr.lookup, run_underlying hu, em, run_getObj_map g1, hck, hrun]) h (den_pair hu2 rfl)
            | false => exact .same (v := u) (by simp [execOp, Instr.lookup, run_underlying hu, em, run_getObj_map g1, hck, hrun]) h hu2
          · rename_i z hf hz; cases hs
            have hrun := sFindInt_ok (kt := kd) es ents.toList 0 _ hf g2 g3
            simp only at hrun
            have hrun := Go.MapKept.run_findKey (P := P) (w := w) hk hrun
            rw [h2] at hrun
            obtain ⟨zv, hdz, hzr⟩ := szero_ok (env := env) hz
            cases ok with
            | true => exact .same (v := .tuple #[zv, .bool false]) (by simp [execOp, Instr.lookup, run_underlying hu, em, run_getObj_map g1, hck, hrun, hzr]) h (den_pair hdz rfl)
            | false => exact .same (v := zv) (by simp [execOp, Instr.lookup, run_underlying hu, em, run_getObj_map g1, hck, hrun, hzr]) h hdz
          · cases hs
        · cases hs
      · split at hs
        · rename_i z hz; cases hs
          simp only [den, Option.some.injEq] at h1
          obtain ⟨zv, hdz, hzr⟩ := szero_ok (env := env) hz
          have k3 : (Instr.findKey kt (ρ y) []).run P w = .ok none w := Go.MapKept.run_findKey (d := .int kd) hk rfl
          cases ok with
          | true => exact .same (v := .tuple #[zv, .bool false]) (by simp [execOp, Instr.lookup, run_underlying hu, ← h1, hck, k3, hzr]) h (den_pair hdz rfl)
          | false => exact .same (v := zv) (by simp [execOp, Instr.lookup, run_underlying hu, ← h1, hck, k3, hzr]) h hdz
        · cases hs
      · cases hs
    · cases hs
  · cases hs

noncomputable def sMapUpdInt (P : Program) (σ : SH) (T : TypeId) (m k v : SV) : Option SR := match P.underlying T, m, k with
  | some (.map kt _), .map n, .int kd l => match P.underlying kt with
    | some (.int kt') => if kd = kt' then (match σ.get n with
      | some (.map es) => match sFindInt kd l es 0 with
        | some none => some (.val .undef (σ.put n (some (.map (es ++ [(.int kd l, v)])))))
        | some (some (j, _)) => some (.val .undef (σ.put n (some (.map (es.set j (.int kd l, v))))))
        | none => none
      | _ => none) else none
    | _ => none
  | _, _, _ => none
theorem sMapUpdInt_ok (h : Rel P w0 env σ w) {T : TypeId} {s t u : SV} {r : SR} (hs : sMapUpdInt P σ T s t u = some r) {x y z : Operand} {ρ : Operand → Value} (h1 : den env s = some (ρ x)) (h2 : den env t = some (ρ y)) (h3 : den env u = some (ρ z)) (d : Option Tmp) (ty : TypeId) (pos : String) (af : Array Edge) (g : Option (Nat × Bool)) :
    Outcome P w0 env ((execOp ρ ⟨d, .mapUpdate T x y z, ty, pos, af, g⟩).run P w) r := by
  unfold sMapUpdInt at hs
  split at hs
  · rename_i kt et n kd l hu
    have h2' := h2
    simp only [den, Option.some.injEq] at h2
    split at hs
    · rename_i kt' hk
      split at hs
      rotate_left
      · cases hs
      rename_i hkk; subst hkk
      have hck : ∀ em w, (Instr.checkKey em 10000 kt (ρ y)).run P w = .ok () w := fun em w => by rw [← h2]; exact check_int hk _ em w
      split at hs
      · rename_i es hn
        obtain ⟨b, c, he, em⟩ := den_map h1
        obtain ⟨b', c', e1, hb, ents, clock, ks, vs, g1, g2, g3, g4, g5, g6, g7⟩ := h.obj n _ hn
        rw [he] at e1; cases e1
        subst g4; subst g5
        split at hs
        · rename_i hf; cases hs
          have hrun := sFindInt_ok (kt := kd) es ents.toList 0 _ hf g2 g3
          simp only at hrun
          have hrun := Go.MapKept.run_findKey (P := P) (w := w) hk hrun
          rw [h2] at hrun
          refine ⟨env, undef, { w with heap := w.heap.setIfInBounds b (.map (ents.push { key := ρ y, val := ρ z, born := clock }) (clock + 1)) }, .inr ⟨by simp [execOp, Instr.mapUpdate, run_underlying hu, em, run_getObj_map g1, hck, hrun, run_setObj_any _ g1], rfl⟩, Env.le_refl _, h.setObj hn he g1 (fun w' hw' => ?_), by simp only [den]⟩
          refine ⟨ents.push { key := ρ y, val := ρ z, born := clock }, clock + 1, ents.toList.map (·.key) ++ [ρ y], ents.toList.map (·.val) ++ [ρ z], hw', ?_, ?_, by simp, by simp, by simp [g6], fun i e hi => ?_⟩
          · rw [List.map_append]
            exact denL_append g2 (denL_mk h2' rfl)
          · rw [List.map_append]
            exact denL_append g3 (denL_mk h3 rfl)
          · rw [Array.getElem?_push] at hi
            split at hi
            · rename_i hie; cases hi; simp [g6, hie]
            · exact g7 i e hi
        · rename_i j q hf; cases hs
          obtain ⟨v, e, hv, hrun, _, hget, hkey⟩ := sFindInt_ok (kt := kd) es ents.toList 0 _ hf g2 g3
          rw [Nat.sub_zero] at hget
          have hrun := Go.MapKept.run_findKey (P := P) (w := w) hk hrun
          rw [h2] at hrun hkey
          have hgA : ents[j]? = some e := by simpa using hget
          have hst : (Instr.keyThatStays e.key (ρ y)).run P w = .ok (ρ y) w := by
            rw [hkey, ← h2]
            exact Go.MapKept.run_keyThatStays (d := .int kd) (k := .int kd l) rfl
          have hjlt : j < ents.size := (Array.getElem?_eq_some_iff.1 hgA).1
          refine ⟨env, undef, { w with heap := w.heap.setIfInBounds b (.map (ents.modify j fun e => { e with key := ρ y, val := ρ z }) clock) }, .inr ⟨by simp [execOp, Instr.mapUpdate, run_underlying hu, em, run_getObj_map g1, hck, hrun, hgA, hst, run_setObj_any _ g1], rfl⟩, Env.le_refl _, h.setObj hn he g1 (fun w' hw' => ?_), by simp only [den]⟩
          have hmod : (ents.modify j fun e => { e with key := ρ y, val := ρ z }).toList = ents.toList.set j { e with key := ρ y, val := ρ z } := by
            apply List.ext_getElem?
            intro i
            rw [Array.getElem?_toList, Array.getElem?_modify, List.getElem?_set]
            split
            · rename_i hij; subst hij
              have hej : ents[j] = e := (Array.getElem?_eq_some_iff.1 hgA).2
              simp [hgA, hjlt, hej]
            · simp
          refine ⟨_, clock, (ents.toList.map (·.key)).set j (ρ y), (ents.toList.map (·.val)).set j (ρ z), hw', ?_, ?_, by rw [hmod, List.map_set], by rw [hmod, List.map_set], by rw [g6]; simp, fun i x hi => ?_⟩
          · rw [List.map_set]
            exact denL_set g2 h2'
          · rw [List.map_set]
            exact denL_set g3 h3
          · rw [Array.getElem?_modify] at hi
            split at hi
            · rename_i hij; subst hij
              rw [hgA] at hi
              simp only [Option.map_some, Option.some.injEq] at hi
              subst hi
              exact g7 j e hgA
            · exact g7 i x hi
        · cases hs
      · cases hs
    · cases hs
  · cases hs
end Go.Proofs.YtdkindollljlnabGreatDoor

namespace Go.Proofs.YtdkindollljlnabGreatDoor
open Go Go.RowKit
variable [Known]

variable {P : Program} {w0 : Base}

abbrev Outs := List (SV × SH)
abbrev OpF := Row → Oper → SH → Option SR
abbrev CallF := FuncId → List SV → SH → Option Outs
abbrev KS := Row → SH → Option Outs

/-- Each of some ends, together. -/
noncomputable def bindR {α : Type} (k : α → Option Outs) (l : List α) : Option Outs :=
  @List.rec α (fun _ => Option Outs) (some []) (fun a _ ih => match k a with
    | none => none
    | some x => match ih with
      | none => none
      | some y => some (x ++ y)) l
noncomputable def bindK {α : Type} (l : List α) (k : α → Option Outs) : Option Outs :=
  @List.casesOn α (fun _ => Option Outs) l (some []) (fun a r => @List.casesOn α (fun _ => Option Outs) r (k a) (fun _ _ => bindR k l))
theorem bindR_mem {α : Type} {k : α → Option Outs} : ∀ {l : List α} {m : Outs}, bindR k l = some m → ∀ a ∈ l, ∃ x, k a = some x ∧ ∀ b ∈ x, b ∈ m := by
  intro l
  induction l with
  | nil => intro m _ a ha; cases ha
  | cons c r ih =>
    intro m h a ha
    have h : (match k c with
      | none => none
      | some x => match bindR k r with
        | none => none
        | some y => some (x ++ y)) = some m := h
    cases h1 : k c with
    | none => rw [h1] at h; cases h
    | some x =>
      rw [h1] at h
      cases h2 : bindR k r with
      | none => rw [h2] at h; cases h
      | some y =>
        rw [h2] at h; cases h
        rcases List.mem_cons.1 ha with rfl | ha
        · exact ⟨x, h1, fun b hb => List.mem_append_left _ hb⟩
        · obtain ⟨z, hz, hall⟩ := ih h2 a ha
          exact ⟨z, hz, fun b hb => List.mem_append_right _ (hall b hb)⟩
theorem bindK_mem {α : Type} {k : α → Option Outs} {l : List α} {m : Outs} (h : bindK l k = some m) : ∀ a ∈ l, ∃ x, k a = some x ∧ ∀ b ∈ x, b ∈ m := by
  cases l with
  | nil => intro a ha; cases ha
  | cons c r =>
    cases r with
    | nil =>
      intro a ha
      have h : k c = some m := h
      rw [List.mem_singleton] at ha; subst ha
      exact ⟨m, h, fun _ hb => hb⟩
    | cons d r => exact bindR_mem (show bindR k (c :: d :: r) = some m from h)

/-- A frame fits. -/
structure FRel (env : Env) (st : Row) (a : Act) : Prop where
  size : st.n = a.tmps.size
  tmps : ∀ t, isJ (st.at t) = true ∨ den env (st.at t) = some (a.tmps.getD t Go.undef)
  defers : a.defers = []
theorem FRel.ext {env env' : Env} {st : Row} {a : Act} (h : FRel env st a) (he : env.ext env') : FRel env' st a := ⟨h.size, fun t => (h.tmps t).imp id fun h => den_ext he _ _ h, h.defers⟩
theorem FRel.mono {env env' : Env} {st : Row} {a : Act} (h : FRel env st a) (he : env.le env') : FRel env' st a := h.ext he.toext

def OpSound (P : Program) (w0 : Base) (op : OpF) : Prop := ∀ st o σ r env a w, op st o σ = some r → env.ones → Rel P w0 env σ w → FRel env st a → Outcome P w0 env ((execOp a.eval o).run P w) r
/-- What a call comes to. -/
def Comes1 (P : Program) (w0 : Base) (env : Env) (outs : Outs) (e : Ending) (w' : World) : Prop := ∃ o ∈ outs, ∃ env' v, e = .returned v ∧ env.le env' ∧ Rel P w0 env' o.2 w' ∧ den env' o.1 = some v
def CallSound (P : Program) (w0 : Base) (call : CallF) : Prop := ∀ f args σ outs env w vs, call f args σ = some outs → env.ones → Rel P w0 env σ w → denL env args = some vs → Calls P f vs.toArray w (Comes1 P w0 env outs)

noncomputable def putS (st : Row) (d : Option Tmp) (s : SV) : Row := match d with
  | some t => st.set t s
  | none => st
theorem putS_some (st : Row) (t : Tmp) (s : SV) : putS st (some t) s = st.set t s := rfl
theorem putS_ok {env : Env} {st : Row} {a : Act} (h : FRel env st a) {d : Option Tmp} {s : SV} {v : Value} (hd : den env s = some v) : FRel env (putS st d s) (a.put d v) := by
  cases d with
  | none => exact h
  | some t =>
    refine ⟨?_, fun j => ?_, h.defers⟩
    · simp only [putS_some, Act.put, Row.set_n, Array.size_setIfInBounds]; exact h.size
    · simp only [putS_some, Act.put, Array.getD_eq_getD_getElem?]
      have hj := h.tmps j
      rw [Array.getD_eq_getD_getElem?] at hj
      by_cases hjt : j = t
      · subst hjt
        rcases Nat.lt_or_ge j st.n with hl | hl
        · right; rw [Row.at_set_eq s hl, Array.getElem?_setIfInBounds_self, if_pos (by rw [← h.size]; exact hl)]; exact hd
        · have : a.tmps.size ≤ j := by rw [← h.size]; exact hl
          rw [Row.set_ge s hl, Array.getElem?_setIfInBounds_self, if_neg (by omega)]
          rw [Array.getElem?_eq_none this] at hj; exact hj
      · rw [Row.at_set_ne s hjt, Array.getElem?_setIfInBounds_ne (Ne.symm hjt)]; exact hj

/-- Is an operation wanted? -/
noncomputable def wantS (ops : Array Oper) (o : Oper) (st : Row) : Option Bool := match o.guard with
  | none => some true
  | some (g, want) => match (ops[g]?).bind (·.dst) with
    | none => some false
    | some t => match st.at t with
      | .bool b => some (match b, want with | true, true => true | false, false => true | _, _ => false)
      | .undef => some false
      | _ => none
theorem wantS_ok {env : Env} {ops : Array Oper} {o : Oper} {st : Row} {a : Act} {b : Bool} (hs : wantS ops o st = some b) (h : FRel env st a) : Region.wanted o (yielded ops a.tmps) = b := by
  unfold wantS at hs
  unfold Region.wanted
  split at hs
  · rename_i hg; cases hs; rw [hg]
  · rename_i g want hg
    rw [hg]
    simp only
    unfold yielded
    split at hs
    · rename_i hd; cases hs; rw [hd]; rfl
    · rename_i t hd
      rw [hd]
      simp only [Option.bind_some]
      have hv := h.tmps t
      rw [Array.getD_eq_getD_getElem?] at hv
      split at hs
      · rename_i c hc; cases hs
        rw [hc] at hv
        replace hv := hv.resolve_left (by simp [isJ])
        simp only [den, Option.some.injEq] at hv
        cases ha : a.tmps[t]? with
        | none => rw [ha] at hv; exact absurd (show Value.bool c = Go.undef from hv) (by simp [Go.undef])
        | some x =>
          rw [ha] at hv
          have hv : Value.bool c = x := hv
          subst hv
          cases c <;> cases want <;> rfl
      · rename_i hc; cases hs
        rw [hc] at hv
        replace hv := hv.resolve_left (by simp [isJ])
        simp only [den, Option.some.injEq] at hv
        cases ha : a.tmps[t]? with
        | none => rfl
        | some x =>
          rw [ha] at hv
          have hv : Go.undef = x := hv
          subst hv
          rfl
      · cases hs

/-- A region that does not draw. -/
noncomputable def xOpsK (op : OpF) (call : CallF) (ops : Array Oper) (l : List Oper) : Row → SH → KS → Option Outs :=
  @List.rec Oper (fun _ => Row → SH → KS → Option Outs) (fun st σ k => k st σ)
    (fun o _ ih st σ k => match wantS ops o st with
      | none => none
      | some false => ih (putS st o.dst .undef) σ k
      | some true => match op st o σ with
        | none => none
        | some (.val s σ') => ih (putS st o.dst s) σ' k
        | some (.enter f args σ') => match call f args σ' with
          | none => none
          | some outs => bindK outs fun x => ih (putS st o.dst x.1) x.2 k) l
theorem xOpsK_cons (op : OpF) (call : CallF) (ops : Array Oper) (o : Oper) (rest : List Oper) (st : Row) (σ : SH) (k : KS) : xOpsK op call ops (o :: rest) st σ k = (match wantS ops o st with
      | none => none
      | some false => xOpsK op call ops rest (putS st o.dst .undef) σ k
      | some true => match op st o σ with
        | none => none
        | some (.val s σ') => xOpsK op call ops rest (putS st o.dst s) σ' k
        | some (.enter f args σ') => match call f args σ' with
          | none => none
          | some outs => bindK outs fun x => xOpsK op call ops rest (putS st o.dst x.1) x.2 k) := rfl
theorem xOpsK_ok {op : OpF} {call : CallF} (hop : OpSound P w0 op) (hcall : CallSound P w0 call) {ops : Array Oper} : ∀ (l : List Oper) (st : Row) (σ : SH) (k : KS) (outs : Outs), xOpsK op call ops l st σ k = some outs →
    ∀ (env : Env) (a : Act) (w : World), env.ones → Rel P w0 env σ w → FRel env st a → ∀ Q : Exit → Act → World → Prop,
      (∀ st' σ' outs', k st' σ' = some outs' → (∀ x ∈ outs', x ∈ outs) → ∀ env' a' w', env.le env' → Rel P w0 env' σ' w' → FRel env' st' a' → Q .normal a' w') → wpList P ops Q l a w := by
  intro l
  induction l with
  | nil =>
    intro st σ k outs h env a w ho hr hf Q hq
    exact hq st σ outs h (fun _ hx => hx) env a w (Env.le_refl _) hr hf
  | cons o rest ih =>
    intro st σ k outs h env a w ho hr hf Q hq
    rw [xOpsK_cons] at h
    unfold wpList
    split at h
    · cases h
    · rename_i hw
      rw [wantS_ok hw hf]
      simp only [Bool.false_eq_true, if_false]
      exact ih _ _ _ _ h env _ w ho hr (putS_ok hf (by simp only [den])) Q hq
    · rename_i hw
      rw [wantS_ok hw hf]
      simp only [if_true]
      left
      split at h
      · cases h
      · rename_i s σ' hs
        obtain ⟨env', v, w', hrun, hle, hrel, hd⟩ := hop st o σ _ env a w hs ho hr hf
        have go : ∀ v', den env' s = some v' → wpList P ops Q rest (a.put o.dst v') w' := fun v' hv' =>
          ih _ _ _ _ h env' _ w' (ho.le hle) hrel (putS_ok (hf.mono hle) hv') Q (fun st' σ' outs' hx hsub env'' a' w'' hle' => hq st' σ' outs' hx hsub env'' a' w'' (hle.trans' hle'))
        rcases hrun with hrun | ⟨hrun, rfl⟩
        · simp only [Oper.wp, hrun, Oper.upon]; exact go v hd
        · simp only [Oper.wp, hrun, Oper.upon]; exact go _ hd
      · rename_i f args σ' hs
        obtain ⟨vs, w', hrun, hrel, hd⟩ := hop st o σ _ env a w hs ho hr hf
        split at h
        · cases h
        · rename_i couts hc
          simp only [Oper.wp, hrun, Oper.upon]
          refine Calls.mono (hcall f args σ' couts env w' vs hc ho hrel hd) ?_
          rintro e w'' ⟨x, hx, env', v, rfl, hle, hrel', hdv⟩
          obtain ⟨ys, hys, hsub⟩ := bindK_mem h x hx
          exact ih _ _ _ _ hys env' _ w'' (ho.le hle) hrel' (putS_ok (hf.mono hle) hdv) Q (fun st' σ' outs' hk hsub' env'' a' w3 hle' => hq st' σ' outs' hk (fun y hy => hsub y (hsub' y hy)) env'' a' w3 (hle.trans' hle'))
end Go.Proofs.YtdkindollljlnabGreatDoor

namespace Go.Proofs.YtdkindollljlnabGreatDoor
open Go Go.RowKit
variable [Known]

variable {P : Program} {w0 : Base}

inductive SX where
  | normal
  | exit (id : Nat)
  | ret
def SX.to : SX → Exit
  | .normal => .normal
  | .exit id => .exit id
  | .ret => .ret

abbrev KX := SX → KS
abbrev BodyF := Row → SH → KX → Option Outs
abbrev RegF := Array Oper → Row → SH → KS → Option Outs
def RegSound (P : Program) (w0 : Base) (reg : RegF) : Prop := ∀ ops st σ k outs, reg ops st σ k = some outs → ∀ env a w, env.ones → Rel P w0 env σ w → FRel env st a → ∀ (id : Nat) (Q : Exit → Act → World → Prop),
  (∀ st' σ' outs', k st' σ' = some outs' → (∀ x ∈ outs', x ∈ outs) → ∀ env' a' w', env.le env' → Rel P w0 env' σ' w' → FRel env' st' a' → Q .normal a' w') → (Code.region id ops true).wp P Q a w

/-- A loop, rolled out. -/
noncomputable def xLoopK (body : BodyF) (n : Nat) : BodyF :=
  @Nat.rec (fun _ => BodyF) (fun _ _ _ => none) (fun _ ih st σ k => body st σ (fun x st' σ' => match x with
    | .normal => ih st' σ' k
    | .exit id => k (.exit id) st' σ'
    | .ret => k .ret st' σ')) n
theorem xLoopK_succ (body : BodyF) (n : Nat) (st : Row) (σ : SH) (k : KX) : xLoopK body (n + 1) st σ k = body st σ (fun x st' σ' => match x with
    | .normal => xLoopK body n st' σ' k
    | .exit id => k (.exit id) st' σ'
    | .ret => k .ret st' σ') := rfl
noncomputable def inBlk (id : Nat) (k : KX) : KX := fun x st σ => match x with
  | .normal => k .normal st σ
  | .exit id' => @Bool.rec (fun _ => Option Outs) (k (.exit id') st σ) (k .normal st σ) (Nat.beq id' id)
  | .ret => k .ret st σ

noncomputable def xCodeK (op : OpF) (call : CallF) (reg : RegF) (c : Code) : BodyF :=
  @Code.rec (fun _ => BodyF)
    (fun st σ k => k .normal st σ)
    (fun _ ops draw => @Bool.rec (fun _ => BodyF) (fun st σ k => xOpsK op call ops ops.toList st σ (fun st' σ' => k .normal st' σ')) (fun st σ k => reg ops st σ (fun st' σ' => k .normal st' σ')) draw)
    (fun _ _ ihx ihy st σ k => ihx st σ (fun x st' σ' => match x with
      | .normal => ihy st' σ' k
      | .exit id => k (.exit id) st' σ'
      | .ret => k .ret st' σ'))
    (fun c _ _ ihx ihy st σ k => match evalS st c with
      | some (.bool b) => @Bool.rec (fun _ => Option Outs) (ihy st σ k) (ihx st σ k) b
      | _ => none)
    (fun id _ ih st σ k => ih st σ (inBlk id k))
    (fun _ ih => xLoopK ih 1000000)
    (fun _ _ _ _ _ _ _ _ _ => none)
    (fun id st σ k => k (.exit id) st σ)
    (fun _ ih => ih)
    (fun _ st σ k => k .normal st σ)
    (fun _ _ _ _ => none)
    (fun st σ k => k .ret st σ)
    (fun _ _ _ _ => none) c

theorem wp_loop_count {c : Code} {Q : Exit → Act → World → Prop} (J : Nat → Act → World → Prop) (round : ∀ n a w, J n a w → c.wp P (Exit.then (fun a' w' => ∃ m, m < n ∧ J m a' w') Q) a w) :
    ∀ n a w, J n a w → (Code.loop c).wp P Q a w := by
  intro n a w h0 b k cs
  have key : ∀ n a w, J n a w → ∃ e a' w', Q e a' w' ∧ Arrives P (lone (b.at a (.code c :: .inLoop c :: k)) cs w) b k cs e a' w' := by
    intro n
    induction n using Nat.strongRecOn with
    | _ n ih =>
      intro a w hJ
      obtain ⟨e, a₁, w₁, hq, harr⟩ := round n a w hJ b (.inLoop c :: k) cs
      cases e with
      | normal =>
        obtain ⟨m, hlt, hJ₁⟩ := hq
        obtain ⟨e₂, a₂, w₂, hq₂, harr₂⟩ := ih m hlt a₁ w₁ hJ₁
        exact ⟨e₂, a₂, w₂, hq₂, .of_steps (Steps.trans harr (.one step_inLoop)) harr₂⟩
      | exit id => exact ⟨_, a₁, w₁, hq, .pass (x := .inLoop c) rfl (fun _ _ => .inl (by simp)) harr⟩
      | goto l => exact ⟨_, a₁, w₁, hq, .pass (x := .inLoop c) rfl (fun _ _ => .inl (by simp)) harr⟩
      | ret => exact ⟨_, a₁, w₁, hq, .pass (x := .inLoop c) rfl (fun _ _ => .inl (by simp)) harr⟩
      | panic ch => exact ⟨_, a₁, w₁, hq, .pass (x := .inLoop c) rfl (fun _ _ => .inl (by simp)) harr⟩
      | outgrown => exact ⟨_, a₁, w₁, hq, .pass (x := .inLoop c) rfl (fun _ _ => .inl (by simp)) harr⟩
  obtain ⟨e, a', w', hq, harr⟩ := key n a w h0
  exact ⟨e, a', w', hq, .of_steps (.one step_loop) harr⟩

/-- What a piece of code comes to. -/
def CodeOk (P : Program) (w0 : Base) (c : Code) (body : BodyF) : Prop := ∀ st σ k outs, body st σ k = some outs → ∀ env a w, env.ones → Rel P w0 env σ w → FRel env st a → ∀ Q : Exit → Act → World → Prop,
  (∀ x st' σ' outs', k x st' σ' = some outs' → (∀ y ∈ outs', y ∈ outs) → ∀ env' a' w', env.le env' → Rel P w0 env' σ' w' → FRel env' st' a' → Q x.to a' w') → c.wp P Q a w

theorem xLoopK_ok {c : Code} {body : BodyF} (hb : CodeOk P w0 c body) (n : Nat) : CodeOk P w0 (.loop c) (xLoopK body n) := by
  intro st σ k outs h env a w ho hr hf Q hq
  refine wp_loop_count (P := P) (fun m a w => ∃ st σ env' outs', xLoopK body m st σ k = some outs' ∧ env.le env' ∧ Rel P w0 env' σ w ∧ FRel env' st a ∧ ∀ o ∈ outs', o ∈ outs) ?_ n a w ⟨st, σ, env, outs, h, Env.le_refl _, hr, hf, fun _ ho => ho⟩
  rintro m a w ⟨st, σ, env', outs', h, hle, hr, hf, hsub⟩
  cases m with
  | zero => exact absurd (show (none : Option Outs) = some outs' from h) (by simp)
  | succ m =>
    rw [xLoopK_succ] at h
    refine hb st σ _ outs' h env' a w (ho.le hle) hr hf _ ?_
    intro x st' σ' outs'' hk hsub' env'' a' w' hle' hr' hf'
    cases x with
    | normal => exact ⟨m, Nat.lt_succ_self m, st', σ', env'', outs'', hk, hle.trans' hle', hr', hf', fun z hz => hsub z (hsub' z hz)⟩
    | exit id => exact hq (.exit id) st' σ' outs'' hk (fun z hz => hsub z (hsub' z hz)) env'' a' w' (hle.trans' hle') hr' hf'
    | ret => exact hq .ret st' σ' outs'' hk (fun z hz => hsub z (hsub' z hz)) env'' a' w' (hle.trans' hle') hr' hf'

theorem xCodeK_ok {op : OpF} {call : CallF} {reg : RegF} (hop : OpSound P w0 op) (hcall : CallSound P w0 call) (hreg : RegSound P w0 reg) : ∀ (c : Code), CodeOk P w0 c (xCodeK op call reg c) := by
  have same : ∀ {outs : Outs}, ∀ y ∈ outs, y ∈ outs := fun _ h => h
  intro c
  induction c with
  | skip => intro st σ k outs h env a w ho hr hf Q hq; exact wp_skip (hq .normal st σ outs h same env a w (Env.le_refl _) hr hf)
  | label l => intro st σ k outs h env a w ho hr hf Q hq; exact wp_label (hq .normal st σ outs h same env a w (Env.le_refl _) hr hf)
  | ret => intro st σ k outs h env a w ho hr hf Q hq; exact wp_ret (hq .ret st σ outs h same env a w (Env.le_refl _) hr hf)
  | exit id => intro st σ k outs h env a w ho hr hf Q hq; exact wp_exit (hq (.exit id) st σ outs h same env a w (Env.le_refl _) hr hf)
  | seq x y ihx ihy =>
    intro st σ k outs h env a w ho hr hf Q hq
    refine wp_seq (ihx st σ _ outs h env a w ho hr hf _ ?_)
    intro x' st' σ' outs' hk hsub env' a' w' hle hr' hf'
    cases x' with
    | normal => exact ihy st' σ' k outs' hk env' a' w' (ho.le hle) hr' hf' Q fun x'' st'' σ'' outs'' hk' hsub' env'' a'' w'' hle' => hq x'' st'' σ'' outs'' hk' (fun y hy => hsub y (hsub' y hy)) env'' a'' w'' (hle.trans' hle')
    | exit id => exact hq (.exit id) st' σ' outs' hk hsub env' a' w' hle hr' hf'
    | ret => exact hq .ret st' σ' outs' hk hsub env' a' w' hle hr' hf'
  | cond c x y ihx ihy =>
    intro st σ k outs h env a w ho hr hf Q hq
    have h : (match evalS st c with
      | some (.bool b) => @Bool.rec (fun _ => Option Outs) (xCodeK op call reg y st σ k) (xCodeK op call reg x st σ k) b
      | _ => none) = some outs := h
    split at h
    · rename_i b hc
      have hv := evalS_den hf.tmps hc
      simp only [den, Option.some.injEq] at hv
      cases b with
      | true => exact wp_cond_true hv.symm (ihx st σ k outs h env a w ho hr hf Q hq)
      | false => exact wp_cond_false hv.symm (ihy st σ k outs h env a w ho hr hf Q hq)
    · cases h
  | block id c ih =>
    intro st σ k outs h env a w ho hr hf Q hq
    refine wp_block (ih st σ _ outs h env a w ho hr hf _ ?_)
    intro x' st' σ' outs' hk hsub env' a' w' hle hr' hf'
    cases x' with
    | normal => exact hq .normal st' σ' outs' hk hsub env' a' w' hle hr' hf'
    | ret => exact hq .ret st' σ' outs' hk hsub env' a' w' hle hr' hf'
    | exit id' =>
      show Exit.inBlock id Q (.exit id') a' w'
      have hk : @Bool.rec (fun _ => Option Outs) (k (.exit id') st' σ') (k .normal st' σ') (Nat.beq id' id) = some outs' := hk
      simp only [Exit.inBlock]
      cases hb : Nat.beq id' id with
      | true =>
        rw [hb] at hk
        rw [if_pos (Nat.eq_of_beq_eq_true hb)]
        exact hq .normal st' σ' outs' hk hsub env' a' w' hle hr' hf'
      | false =>
        rw [hb] at hk
        rw [if_neg (Nat.ne_of_beq_eq_false hb)]
        exact hq (.exit id') st' σ' outs' hk hsub env' a' w' hle hr' hf'
  | scope c ih =>
    intro st σ k outs h env a w ho hr hf Q hq
    refine wp_scope_straight (ih st σ k outs h env a w ho hr hf _ ?_)
    intro x' st' σ' outs' hk hsub env' a' w' hle hr' hf'
    have := hq x' st' σ' outs' hk hsub env' a' w' hle hr' hf'
    cases x' with
    | normal => exact this
    | ret => exact this
    | exit id' => exact this
  | loop c ih => exact (xLoopK_ok ih 1000000 : CodeOk P w0 (.loop c) (xLoopK (xCodeK op call reg c) 1000000))
  | region id ops draw =>
    intro st σ k outs h env a w ho hr hf Q hq
    cases draw with
    | false =>
      refine wp_region_list (xOpsK_ok hop hcall _ st σ _ outs h env a w ho hr hf Q ?_)
      intro st' σ' outs' hk hsub env' a' w' hle hr' hf'
      exact hq .normal st' σ' outs' hk hsub env' a' w' hle hr' hf'
    | true =>
      exact hreg ops st σ _ outs h env a w ho hr hf id Q fun st' σ' outs' hk hsub env' a' w' hle hr' hf' => hq .normal st' σ' outs' hk hsub env' a' w' hle hr' hf'
  | rangeFunc f ps x y _ _ => intro st σ k outs h; exact absurd (show (none : Option Outs) = some outs from h) (by simp)
  | goto l => intro st σ k outs h; exact absurd (show (none : Option Outs) = some outs from h) (by simp)
  | refuse why => intro st σ k outs h; exact absurd (show (none : Option Outs) = some outs from h) (by simp)

/-- A function's results. -/
noncomputable def sRes (P : Program) (st : Row) (σ : SH) : List ResultVar → Option (List SV)
  | [] => some []
  | .tmp t :: r => match sRes P st σ r, isJ (st.at t) with
    | some l, false => some (st.at t :: l)
    | _, _ => none
  | .cell t T :: r => match st.at t with
    | .ptr n off => match sload P σ T n off, sRes P st σ r with
      | some s, some l => some (s :: l)
      | _, _ => none
    | _ => none
def resOne (tmps : Array Value) : ResultVar → Sem Value
  | .tmp t => pure (tmps.getD t undef)
  | .cell a t => do loadVar t (← asAddr (tmps.getD a undef))
theorem results_eq (fn : Func) (tmps : Array Value) : results fn tmps = (do let vs ← fn.results.mapM (resOne tmps); pure (if h : vs.size = 1 then vs[0] else .tuple vs)) := by
  unfold results
  have : (fun x => match x with | .tmp t => pure (tmps.getD t undef) | .cell a t => do loadVar t (← asAddr (tmps.getD a undef)) : ResultVar → Sem Value) = resOne tmps := by
    funext x; cases x <;> rfl
  rw [← this]
  rfl
theorem sRes_ok {env : Env} {st : Row} {σ : SH} {w : World} {a : Act} (hr : Rel P w0 env σ w) (hf : FRel env st a) : ∀ {rs : List ResultVar} {l : List SV}, sRes P st σ rs = some l → ∃ vs, denL env l = some vs ∧
    (rs.mapM (resOne a.tmps)).run P w = .ok vs w := by
  intro rs
  induction rs with
  | nil => intro l h; simp only [sRes] at h; cases h; exact ⟨[], rfl, by simp⟩
  | cons x r ih =>
    intro l h
    cases x with
    | tmp t =>
      simp only [sRes] at h
      split at h
      · rename_i m hm hj; cases h
        obtain ⟨vs, h1, h2⟩ := ih hm
        exact ⟨a.tmps.getD t undef :: vs, denL_mk ((hf.tmps t).resolve_left (by rw [hj]; simp)) h1, by simp [List.mapM_cons, resOne, h2]⟩
      · cases h
    | cell t T =>
      simp only [sRes] at h
      split at h
      · rename_i n off ht
        split at h
        · rename_i s m hs hm; cases h
          have hd := hf.tmps t
          rw [ht] at hd
          replace hd := hd.resolve_left (by simp [isJ])
          obtain ⟨b, c, he, hv⟩ := den_ptr hd
          obtain ⟨u, hu, hrun⟩ := sload_ok hr hs he
          obtain ⟨vs, h1, h2⟩ := ih hm
          exact ⟨u :: vs, denL_mk hu h1, by simp [List.mapM_cons, resOne, hv, h2, asAddr, hrun]⟩
        · cases h
      · cases h

def oneOr : List SV → SV
  | [s] => s
  | l => .tuple l

/-- A frame's end. -/
noncomputable def endK (P : Program) (rs : List ResultVar) : KX := fun x st σ => match x with
  | .exit _ => none
  | .normal => match sRes P st σ rs with
    | none => none
    | some l => some [(oneOr l, σ)]
  | .ret => match sRes P st σ rs with
    | none => none
    | some l => some [(oneOr l, σ)]
/-- A call: by a summary, or by its body. -/
noncomputable def xCall (P : Program) (op : OpF) (summ : CallF) (reg : CallF → RegF) (d : Nat) : CallF :=
  @Nat.rec (fun _ => CallF) (fun _ _ _ => none) (fun _ ih f args σ => match summ f args σ with
    | some o => some o
    | none => match P.funcs[f]? with
      | none => none
      | some fn => match fn.body with
        | none => none
        | some c => xCodeK op ih (reg ih) c (rowOf args fn.ntmps) σ (endK P fn.results.toList)) d
theorem xCall_succ (P : Program) (op : OpF) (summ : CallF) (reg : CallF → RegF) (d : Nat) (f : FuncId) (args : List SV) (σ : SH) : xCall P op summ reg (d + 1) f args σ = (match summ f args σ with
    | some o => some o
    | none => match P.funcs[f]? with
      | none => none
      | some fn => match fn.body with
        | none => none
        | some c => xCodeK op (xCall P op summ reg d) (reg (xCall P op summ reg d)) c (rowOf args fn.ntmps) σ (endK P fn.results.toList)) := rfl
theorem denL_undefs {env : Env} : ∀ n, denL env (List.replicate n SV.undef) = some (List.replicate n undef) := by
  intro n
  induction n with
  | zero => rfl
  | succ n ih => rw [List.replicate_succ, List.replicate_succ]; exact denL_mk (by simp only [den]) ih
theorem oneOr_den {env : Env} {l : List SV} {vs : List Value} (h : denL env l = some vs) : den env (oneOr l) = some (if h : vs.toArray.size = 1 then vs.toArray[0] else .tuple vs.toArray) := by
  unfold oneOr
  split
  · rename_i s
    obtain ⟨v, us, h1, h2, rfl⟩ := denL_cons h
    simp only [denL] at h2; cases h2
    simp [h1]
  · rename_i hne
    have hl := denL_length h
    have : ¬ vs.toArray.size = 1 := by
      intro e
      have : l.length = 1 := by rw [← hl]; simpa using e
      obtain ⟨s, rfl⟩ := List.length_eq_one_iff.1 this
      exact hne s rfl
    rw [dif_neg this]
    simp only [den, h]
theorem xCall_ok {op : OpF} {summ : CallF} {reg : CallF → RegF} (hop : ∀ b, OpSound P b op) (hsumm : ∀ b, CallSound P b summ) (hreg : ∀ call, (∀ b, CallSound P b call) → ∀ b, RegSound P b (reg call)) : ∀ d b, CallSound P b (xCall P op summ reg d) := by
  intro d
  induction d with
  | zero => intro w0 f args σ outs env w vs h; exact absurd (show (none : Option Outs) = some outs from h) (by simp)
  | succ d ih =>
    intro w0 f args σ outs env w vs h ho hr hd
    rw [xCall_succ] at h
    split at h
    · rename_i o hs; cases h; exact hsumm w0 f args σ _ env w vs hs ho hr hd
    · split at h
      · cases h
      · rename_i fn hfn
        split at h
        · cases h
        · rename_i c hb
          have hlen := denL_length hd
          refine calls_of_wp hfn hb (xCodeK_ok (hop w0) (ih w0) (hreg _ ih w0) c _ σ _ outs h env _ w ho hr ⟨?_, fun t => ?_, rfl⟩ _ ?_)
          · simp only [rowOf, Array.size_append, Array.size_replicate, List.size_toArray]
            rw [hlen]; rfl
          · refine .inr ?_
            rw [rowOf_at, Array.getD_eq_getD_getElem?]
            rcases Nat.lt_or_ge t args.length with ht | ht
            · obtain ⟨v, hv, hdv⟩ := denL_get hd (List.getElem?_eq_getElem ht)
              rw [List.getElem?_eq_getElem ht, Array.getElem?_append_left (by simp; omega), List.getElem?_toArray, hv]
              exact hdv
            · rw [List.getElem?_eq_none ht]
              have e : (vs.toArray ++ Array.replicate (fn.ntmps - vs.toArray.size) undef)[t]?.getD undef = undef := by
                rw [Array.getElem?_append_right (by simp; omega), Array.getElem?_replicate]
                split <;> rfl
              simp only [Option.getD_none, den]
              exact congrArg some e.symm
          · intro x st' σ' outs' hk hsub env' a' w' hle hr' hf'
            have fin : ∀ l, sRes P st' σ' fn.results.toList = some l → outs' = [(oneOr l, σ')] → a'.defers = [] ∧ ∃ v, (results fn a'.tmps).run P w' = .ok v w' ∧ Comes1 P w0 env outs (.returned v) w' := by
              intro l hl hy'
              obtain ⟨us, h1, h2⟩ := sRes_ok hr' hf' hl
              refine ⟨hf'.defers, _, ?_, _, hsub _ (by rw [hy']; exact List.mem_singleton.2 rfl), env', _, rfl, hle, hr', oneOr_den h1⟩
              rw [results_eq, Array.mapM_eq_mapM_toList]
              simp [h2]
            cases x with
            | exit id => exact absurd (show (none : Option Outs) = some outs' from hk) (by simp)
            | normal =>
              simp only [endK] at hk
              split at hk
              · cases hk
              · rename_i l hl; cases hk; exact fin l hl rfl
            | ret =>
              simp only [endK] at hk
              split at hk
              · cases hk
              · rename_i l hl; cases hk; exact fin l hl rfl
end Go.Proofs.YtdkindollljlnabGreatDoor

namespace Go.Proofs.YtdkindollljlnabGreatDoor
open Go

section
variable {P : Program} {S : World → Prop} {ops : Array Oper} {Q : Exit → Act → World → Prop}

/-- One operation's outcome: the value v, and a world that meets S. -/
def Gives (P : Program) (S : World → Prop) (v : Value) : Result Next → Prop
  | .ok (.value u) w' => u = v ∧ S w'
  | .ok .skip w' => v = undef ∧ S w'
  | .ok (.enter f args) w' => Calls P f args w' fun e w'' => e = .returned v ∧ S w''
  | _ => False

theorem Gives.upon {v : Value} {r : Result Next} (h : Gives P S v r) {o : Oper} {a : Act} {next : Act → World → Prop} (hn : ∀ w', S w' → next (a.put o.dst v) w') : o.upon P a next Q r := by
  cases r with
  | halt x w => exact h.elim
  | ok x w =>
    cases x <;> simp only [Gives] at h
    case value u => obtain ⟨rfl, hs⟩ := h; exact hn _ hs
    case skip => obtain ⟨rfl, hs⟩ := h; exact hn _ hs
    case enter f args =>
      refine Calls.mono h ?_
      rintro e w'' ⟨rfl, hs⟩
      exact hn _ hs

/-- One operation, in the frame a, in whatever world that meets S. -/
def StepS (P : Program) (S : World → Prop) (ops : Array Oper) (o : Oper) (a : Act) (v : Value) : Prop :=
  (Region.wanted o (yielded ops a.tmps) = false ∧ v = undef) ∨
  (Region.wanted o (yielded ops a.tmps) = true ∧ ∀ w, S w → Gives P S v ((execOp a.eval o).run P w))

/-- The operations one after the other, in the text's order. -/
def InText (P : Program) (S : World → Prop) (ops : Array Oper) (K : Act → Prop) : List Oper → Act → Prop
  | [], a => K a
  | o :: rest, a => ∃ v, StepS P S ops o a v ∧ InText P S ops K rest (a.put o.dst v)

/-- What the text must keep: every binding need points back; what an operation looks at is needed by it; no two write one slot. -/
def textual (ops : Array Oper) : Bool :=
  Region.noSelect ops &&
  (List.range ops.size).all fun i => match ops[i]? with
    | none => true
    | some o => o.after.all (fun e => !Region.binds .any e || decide (e.on < i)) &&
      (List.range ops.size).all fun j => match (ops[j]?).bind (·.dst) with
        | none => true
        | some d => (!(o.looksAt ops).contains d || (decide (j < i) && o.after.any fun e => Region.binds .any e && e.on == j)) && (j == i || o.dst != some d)

theorem textual_spec (h : textual ops = true) (i : Nat) (o : Oper) (ho : ops[i]? = some o) :
    (∀ e ∈ o.after, Region.binds .any e = true → e.on < i) ∧
    (∀ j d, (ops[j]?).bind (·.dst) = some d → d ∈ o.looksAt ops → j < i ∧ ∃ e ∈ o.after, Region.binds .any e = true ∧ e.on = j) ∧
    (∀ j d, (ops[j]?).bind (·.dst) = some d → o.dst = some d → j = i) := by
  have hi : i < ops.size := (Array.getElem?_eq_some_iff.1 ho).1
  unfold textual at h
  simp only [Bool.and_eq_true, List.all_eq_true, List.mem_range] at h
  have h1 := h.2 i hi
  simp only [ho, Bool.and_eq_true, Array.all_eq_true_iff_forall_mem, List.all_eq_true, List.mem_range] at h1
  have hj : ∀ j d, (ops[j]?).bind (·.dst) = some d → j < ops.size := by
    intro j d hd
    cases hx : ops[j]? with
    | none => rw [hx] at hd; cases hd
    | some x => exact (Array.getElem?_eq_some_iff.1 hx).1
  refine ⟨fun e he hb => ?_, fun j d hd hl => ?_, fun j d hd hl => ?_⟩
  · have := h1.1 e he
    simpa [hb] using this
  · have := h1.2 j (hj j d hd)
    simp only [hd, Bool.and_eq_true, Bool.or_eq_true] at this
    rcases this.1 with h2 | h2
    · simp [hl] at h2
    · simp only [decide_eq_true_eq, Array.any_eq_true'] at h2
      obtain ⟨h3, e, he, h4⟩ := h2
      simp only [Bool.and_eq_true, beq_iff_eq] at h4
      exact ⟨h3, e, he, h4.1, h4.2⟩
  · have := h1.2 j (hj j d hd)
    simp only [hd, Bool.and_eq_true, Bool.or_eq_true] at this
    rcases this.2 with h2 | h2
    · simpa using h2
    · simp [hl] at h2

/-- The slot of an operation. -/
def slotOf (ops : Array Oper) (k : Nat) : Option Tmp := (ops[k]?).bind (·.dst)

/-- The frame in which the marked operations among the first k are done. -/
def fill (ops : Array Oper) (f : Nat → Value) (a : Act) (m : Nat → Bool) : Nat → Act
  | 0 => a
  | k + 1 => if m k then (fill ops f a m k).put (slotOf ops k) (f k) else fill ops f a m k

theorem fill_congr {f g : Nat → Value} {a : Act} {m m' : Nat → Bool} : ∀ k, (∀ j < k, m j = m' j) → (∀ j < k, f j = g j) → fill ops f a m k = fill ops g a m' k := by
  intro k
  induction k with
  | zero => intro _ _; rfl
  | succ k ih =>
    intro h1 h2
    simp only [fill]
    rw [ih (fun j hj => h1 j (by omega)) (fun j hj => h2 j (by omega)), h1 k (by omega), h2 k (by omega)]

theorem fill_set {f : Nat → Value} {a : Act} {m : Nat → Bool} {i : Nat} (hd : ∀ j d, slotOf ops j = some d → slotOf ops i = some d → j = i) (hm : m i = false) :
    ∀ k, i < k → fill ops f a (fun j => m j || j == i) k = (fill ops f a m k).put (slotOf ops i) (f i) := by
  intro k
  induction k with
  | zero => intro h; omega
  | succ k ih =>
    intro h
    simp only [fill]
    by_cases hk : k = i
    · subst hk
      simp only [hm, BEq.rfl, Bool.or_true, if_true, Bool.false_eq_true, if_false]
      rw [fill_congr (m' := m) (g := f) k (fun j hj => by simp; omega) (fun _ _ => rfl)]
    · rw [ih (by omega)]
      have hb : (k == i) = false := by simpa using hk
      simp only [hb, Bool.or_false]
      split
      · exact Act.put_comm _ _ _ fun d h1 h2 => hk (hd k d h2 h1)
      · rfl

theorem size_put (a : Act) (d : Option Tmp) (v : Value) : (a.put d v).tmps.size = a.tmps.size := by
  cases d <;> simp [Act.put]
theorem fill_size {f : Nat → Value} {a : Act} {m : Nat → Bool} : ∀ k, (fill ops f a m k).tmps.size = a.tmps.size := by
  intro k
  induction k with
  | zero => rfl
  | succ k ih => simp only [fill]; split <;> simp [size_put, ih]

theorem fill_look {f : Nat → Value} {a : Act} {m m' : Nat → Bool} {t : Tmp} : ∀ k, (∀ j < k, slotOf ops j = some t → m j = m' j) →
    (fill ops f a m k).tmps[t]? = (fill ops f a m' k).tmps[t]? := by
  intro k
  induction k with
  | zero => intro _; rfl
  | succ k ih =>
    intro h
    have ih := ih fun j hj => h j (by omega)
    have hs := (fill_size (ops := ops) (f := f) (a := a) (m := m) k).trans (fill_size (ops := ops) (f := f) (a := a) (m := m') k).symm
    simp only [fill]
    by_cases ht : slotOf ops k = some t
    · rw [h k (by omega) ht]
      split
      · simp only [ht, Act.put, Array.getElem?_setIfInBounds_self, hs]
      · exact ih
    · have hp : ∀ b : Act, (b.put (slotOf ops k) (f k)).tmps[t]? = b.tmps[t]? := by
        intro b
        cases hk : slotOf ops k with
        | none => rfl
        | some d => simp only [Act.put]; rw [Array.getElem?_setIfInBounds_ne]; intro e; subst e; exact ht hk
      split <;> split <;> simp only [hp, ih]

/-- How many of the first k are not listed. -/
def unlisted (L : Array Bool) : Nat → Nat
  | 0 => 0
  | k + 1 => unlisted L k + (if L.getD k true then 0 else 1)

theorem unlisted_set {L : Array Bool} {i : Nat} (hi : L.getD i true = false) : ∀ k, (k ≤ i → unlisted (L.setIfInBounds i true) k = unlisted L k) ∧ (i < k → unlisted (L.setIfInBounds i true) k + 1 = unlisted L k) := by
  intro k
  have hlt : i < L.size := by
    rcases Nat.lt_or_ge i L.size with h | h
    · exact h
    · simp [Array.getElem?_eq_none h] at hi
  induction k with
  | zero => exact ⟨fun _ => rfl, fun h => by omega⟩
  | succ k ih =>
    constructor
    · intro h
      simp only [unlisted]
      rw [ih.1 (by omega), getD_set_ne true (by omega)]
    · intro h
      simp only [unlisted]
      by_cases hk : k = i
      · subst hk
        rw [ih.1 (Nat.le_refl _), hi]
        have : (L.setIfInBounds k true).getD k true = true := by simp [hlt]
        rw [this]; rfl
      · rw [getD_set_ne true (Ne.symm hk)]
        have := ih.2 (by omega)
        omega

theorem unlisted_zero {L : Array Bool} : ∀ k, unlisted L k = 0 → ∀ j < k, L.getD j true = true := by
  intro k
  induction k with
  | zero => intro _ j hj; omega
  | succ k ih =>
    intro h j hj
    simp only [unlisted] at h
    by_cases hk : j = k
    · subst hk
      cases hx : L.getD j true with
      | true => rfl
      | false => rw [hx] at h; simp at h
    · exact ih (by omega) j (by omega)

theorem getD_both {L : Array Bool} {j : Nat} (h : j < L.size) : L.getD j false = L.getD j true := by simp [h]

theorem all_listed (ht : textual ops = true) {L : Array Bool} (hs : L.size = ops.size) (hr : Region.ready .any ops L = []) : ∀ j, j < ops.size → L.getD j false = true := by
  intro j
  induction j using Nat.strongRecOn with
  | _ j ih =>
    intro hj
    cases hx : L.getD j false with
    | true => rfl
    | false =>
      have ho : ops[j]? = some ops[j] := Array.getElem?_eq_getElem hj
      have hmem : j ∈ Region.ready .any ops L := mem_ready.2 ⟨by rw [← getD_both (by omega)]; exact hx, _, ho, fun e he hb => by
        have h1 := (textual_spec ht j _ ho).1 e he hb
        exact ih _ h1 (by omega)⟩
      rw [hr] at hmem; cases hmem

theorem StepS.congr {o : Oper} {a a' : Act} {v : Value} (hs : ∀ cs b, o.op ≠ .select cs b) (h : ∀ t, t ∈ o.looksAt ops → a'.tmps[t]? = a.tmps[t]?) (hh : StepS P S ops o a v) : StepS P S ops o a' v := by
  have h1 : Region.wanted o (yielded ops a'.tmps) = Region.wanted o (yielded ops a.tmps) := by
    unfold Region.wanted
    cases hg : o.guard with
    | none => rfl
    | some gw =>
      obtain ⟨g, want⟩ := gw
      have : yielded ops a'.tmps g = yielded ops a.tmps g := by
        unfold yielded
        cases ht : (ops[g]?).bind (·.dst) with
        | none => rfl
        | some t =>
          have := h t (by simp [Oper.looksAt, hg, ht])
          simp [this]
      simp only [this]
  have h2 : execOp a'.eval o = execOp a.eval o := by
    refine execOp_congr o hs fun x hx => ?_
    cases x with
    | tmp t =>
      have := h t (List.mem_append_left _ (List.mem_filterMap.2 ⟨.tmp t, by simpa using hx, rfl⟩))
      simp [Act.eval, this]
    | _ => rfl
  unfold StepS at *
  rw [h1, h2]
  exact hh

theorem orderly_any (ht : textual ops = true) (f : Nat → Value) (a0 : Act)
    (hst : ∀ i o, ops[i]? = some o → StepS P S ops o (fill ops f a0 (fun _ => true) i) (f i))
    (hQ : ∀ w, S w → Q .normal (fill ops f a0 (fun _ => true) ops.size) w) :
    ∀ (fuel : Nat) (L : Array Bool) (a : Act) (w : World), L.size = ops.size → unlisted L ops.size ≤ fuel → a = fill ops f a0 (fun j => L.getD j false) ops.size → S w →
      wpAny P .any ops Q fuel L a w := by
  have hns : Region.noSelect ops = true := by unfold textual at ht; simp only [Bool.and_eq_true] at ht; exact ht.1
  have hend : ∀ (L : Array Bool) (a : Act) (w : World), L.size = ops.size → a = fill ops f a0 (fun j => L.getD j false) ops.size → S w → Region.ready .any ops L = [] → Q .normal a w := by
    intro L a w hL ha hw hr
    have := all_listed ht hL hr
    rw [ha, fill_congr (m' := fun _ => true) (g := f) ops.size this (fun _ _ => rfl)]
    exact hQ w hw
  intro fuel
  induction fuel with
  | zero =>
    intro L a w hL hu ha hw
    have hr : Region.ready .any ops L = [] := by
      rcases hx : Region.ready .any ops L with _ | ⟨i, xs⟩
      · rfl
      · have hi : i ∈ Region.ready .any ops L := by rw [hx]; exact List.mem_cons_self
        obtain ⟨h0, o, ho, _⟩ := mem_ready.1 hi
        have := unlisted_zero (L := L) ops.size (by omega) i (Array.getElem?_eq_some_iff.1 ho).1
        rw [h0] at this; cases this
    exact ⟨hr, hend L a w hL ha hw hr⟩
  | succ fuel ih =>
    intro L a w hL hu ha hw
    refine ⟨hend L a w hL ha hw, fun i hi => ?_⟩
    obtain ⟨h0, o, ho, hall⟩ := mem_ready.1 hi
    have hlt : i < ops.size := (Array.getElem?_eq_some_iff.1 ho).1
    have hsp := textual_spec ht i o ho
    have hslot : slotOf ops i = o.dst := by unfold slotOf; rw [ho]; rfl
    have hfal : L.getD i false = false := by rw [getD_both (by omega)]; exact h0
    -- the frame at hand gives what the text's frame gives
    have hstep : StepS P S ops o a (f i) := by
      refine (hst i o ho).congr (fun cs b => Region.noSelect_spec hns i o cs b ho) fun t hmem => ?_
      have e1 : fill ops f a0 (fun _ => true) i = fill ops f a0 (fun j => decide (j < i)) i := fill_congr i (fun j hj => by simp [hj]) (fun _ _ => rfl)
      have e2 : ∀ k, i ≤ k → fill ops f a0 (fun j => decide (j < i)) k = fill ops f a0 (fun j => decide (j < i)) i := by
        intro k
        induction k with
        | zero => intro h; rw [Nat.le_zero.1 h]
        | succ k ihk =>
          intro h
          rcases Nat.lt_or_ge k i with h' | h'
          · rw [show k + 1 = i by omega]
          · have : decide (k < i) = false := by simp; omega
            simp only [fill, this, Bool.false_eq_true, if_false]
            exact ihk h'
      rw [e1, ← e2 ops.size (by omega), ha]
      refine fill_look ops.size fun j hj hjt => ?_
      obtain ⟨h1, e, he, hb, rfl⟩ := hsp.2.1 j t hjt hmem
      rw [hall e he hb]; simp [h1]
    -- behind it
    have hnext : ∀ w', S w' → wpAny P .any ops Q fuel (L.setIfInBounds i true) (a.put o.dst (f i)) w' := by
      intro w' hw'
      refine ih _ _ _ (by simp [hL]) ?_ ?_ hw'
      · have := (unlisted_set h0 ops.size).2 hlt
        omega
      · have := fill_set (ops := ops) (f := f) (a := a0) (m := fun j => L.getD j false) (i := i) (fun j d h1 h2 => hsp.2.2 j d h1 (hslot ▸ h2)) hfal ops.size hlt
        rw [hslot] at this
        rw [ha, ← this]
        refine fill_congr _ (fun j hj => ?_) (fun _ _ => rfl)
        by_cases hji : j = i
        · subst hji
          have : j < L.size := by omega
          simp [this]
        · rw [getD_set_ne false (Ne.symm hji)]; simp [hji]
    unfold wpOp
    simp only [ho]
    rcases hstep with ⟨h1, h2⟩ | ⟨h1, h2⟩
    · rw [h1]
      simp only [Bool.false_eq_true, if_false]
      rw [h2] at hnext
      exact hnext w hw
    · rw [h1]
      simp only [if_true]
      exact .inl ((h2 w hw).upon hnext)

theorem inText_values {K : Act → Prop} (a0 : Act) : ∀ (l : List Oper) (k : Nat) (f : Nat → Value), k + l.length = ops.size → ops.toList.drop k = l →
    InText P S ops K l (fill ops f a0 (fun _ => true) k) →
    ∃ g : Nat → Value, (∀ j < k, g j = f j) ∧ (∀ i o, k ≤ i → ops[i]? = some o → StepS P S ops o (fill ops g a0 (fun _ => true) i) (g i)) ∧ K (fill ops g a0 (fun _ => true) ops.size) := by
  intro l
  induction l with
  | nil =>
    intro k f hk hd h
    have hk : k = ops.size := by simpa using hk
    refine ⟨f, fun _ _ => rfl, fun i o hi ho => ?_, ?_⟩
    · have := (Array.getElem?_eq_some_iff.1 ho).1; omega
    · rw [← hk]; exact h
  | cons o rest ih =>
    intro k f hk hd h
    obtain ⟨v, h1, h2⟩ := h
    have hlt : k < ops.size := by simp at hk; omega
    have ho : ops[k]? = some o := by
      have : (ops.toList.drop k)[0]? = some o := by rw [hd]; rfl
      rw [List.getElem?_drop] at this
      simpa using this
    have hslot : slotOf ops k = o.dst := by unfold slotOf; rw [ho]; rfl
    let f1 : Nat → Value := fun j => if j = k then v else f j
    have e1 : fill ops f1 a0 (fun _ => true) k = fill ops f a0 (fun _ => true) k := fill_congr k (fun _ _ => rfl) (fun j hj => by simp only [f1]; rw [if_neg (by omega)])
    have e2 : fill ops f1 a0 (fun _ => true) (k + 1) = (fill ops f a0 (fun _ => true) k).put o.dst v := by
      simp only [fill, if_true]
      rw [e1, hslot]
      simp only [f1, if_true]
    obtain ⟨g, g1, g2, g3⟩ := ih (k + 1) f1 (by simp at hk; omega) (by rw [← List.drop_drop, hd]; rfl) (by rw [e2]; exact h2)
    refine ⟨g, fun j hj => ?_, fun i o' hi ho' => ?_, g3⟩
    · rw [g1 j (by omega)]; simp only [f1]; rw [if_neg (by omega)]
    · by_cases hik : i = k
      · subst hik
        rw [ho] at ho'
        obtain rfl := Option.some.inj ho'
        have e3 : fill ops g a0 (fun _ => true) i = fill ops f a0 (fun _ => true) i := (fill_congr i (fun _ _ => rfl) (fun j hj => g1 j (by omega))).trans e1
        rw [e3, g1 i (by omega)]
        simpa only [f1, if_true] using h1
      · exact g2 i o' (by omega) ho'

theorem unlisted_none (n : Nat) : unlisted (Array.replicate n false) n ≤ n := by
  have : ∀ k, unlisted (Array.replicate n false) k ≤ k := by
    intro k
    induction k with
    | zero => exact Nat.le_refl _
    | succ k ih => simp only [unlisted]; split <;> omega
  exact this n

/-- A region that draws its order, walked in the text's order under the law S. -/
theorem wp_region_text (S : World → Prop) {id : Nat} {l : List Oper} {a : Act} {w : World} (hm : P.follows .mixedOrders = true) (ht : textual l.toArray = true) (hw : S w.drew)
    (h : InText P S l.toArray (fun a' => ∀ w', S w' → Q .normal a' w') l a) : (Code.region id l.toArray true).wp P Q a w := by
  obtain ⟨g, -, g2, g3⟩ := inText_values (P := P) (S := S) (ops := l.toArray) (K := fun a' => ∀ w', S w' → Q .normal a' w') a l 0 (fun _ => undef) (by simp) (by simp) h
  refine wp_region_any hm ?_
  refine orderly_any ht g a (fun i o ho => g2 i o (Nat.zero_le _) ho) g3 _ _ _ _ (by simp) (unlisted_none _) ?_ hw
  have : ∀ k, fill l.toArray g a (fun j => (Array.replicate l.toArray.size false).getD j false) k = a := by
    intro k
    induction k with
    | zero => rfl
    | succ k ih =>
      have : (Array.replicate l.toArray.size false).getD k false = false := by
        simp only [Array.getD_eq_getD_getElem?, Array.getElem?_replicate]; split <;> rfl
      simp only [fill, this, Bool.false_eq_true, if_false]; exact ih
  exact (this _).symm

theorem inText_no {K : Act → Prop} {o : Oper} {rest : List Oper} {a : Act} (hw : Region.wanted o (yielded ops a.tmps) = false) (h : InText P S ops K rest (a.put o.dst undef)) : InText P S ops K (o :: rest) a :=
  ⟨undef, .inl ⟨hw, rfl⟩, h⟩
theorem inText_val {K : Act → Prop} {o : Oper} {rest : List Oper} {a : Act} (v : Value) (hw : Region.wanted o (yielded ops a.tmps) = true) (hv : ∀ w, S w → (execOp a.eval o).run P w = .ok (.value v) w) (h : InText P S ops K rest (a.put o.dst v)) : InText P S ops K (o :: rest) a :=
  ⟨v, .inr ⟨hw, fun w hs => by rw [hv w hs]; exact ⟨rfl, hs⟩⟩, h⟩
theorem inText_call {K : Act → Prop} {o : Oper} {rest : List Oper} {a : Act} (v : Value) (f : FuncId) (args : Array Value) (hw : Region.wanted o (yielded ops a.tmps) = true) (hv : ∀ w, (execOp a.eval o).run P w = .ok (.enter f args) w)
    (hc : ∀ w, S w → Calls P f args w fun e w'' => e = .returned v ∧ S w'') (h : InText P S ops K rest (a.put o.dst v)) : InText P S ops K (o :: rest) a :=
  ⟨v, .inr ⟨hw, fun w hs => by rw [hv w]; exact hc w hs⟩, h⟩
theorem inText_bin {K : Act → Prop} {d : Option Tmp} {b : BinOp} {A B : TypeId} {x y : Operand} {T : TypeId} {pos : String} {af : Array Edge} {g : Option (Nat × Bool)} {rest : List Oper} {a : Act} (v : Value)
    (hw : Region.wanted ⟨d, .binOp b A x y B, T, pos, af, g⟩ (yielded ops a.tmps) = true) (hv : ∀ w, S w → (execOp a.eval ⟨d, .binOp b A x y B, T, pos, af, g⟩).run P w = .ok (.value v) w) (h : InText P S ops K rest (a.put d v)) : InText P S ops K (⟨d, .binOp b A x y B, T, pos, af, g⟩ :: rest) a :=
  inText_val v hw hv h
/-- A function of the program that has a body. -/
def goes (P : Program) (f : FuncId) : Bool := match P.funcs[f]? with
  | some fn => fn.body.isSome && !(fn.name == "runtime.NumGoroutine")
  | none => false
theorem run_go {f : FuncId} (hg : goes P f = true) (a : Act) (d : Option Tmp) (xs : Array Operand) (ts : Array TypeId) (T : TypeId) (pos : String) (af : Array Edge) (g : Option (Nat × Bool)) (w : World) :
    (execOp a.eval ⟨d, .call ⟨.value (.func f), xs, ts⟩, T, pos, af, g⟩).run P w = .ok (.enter f (xs.map a.eval)) w := by
  unfold goes at hg
  cases hf : P.funcs[f]? with
  | none => rw [hf] at hg; cases hg
  | some fn =>
    rw [hf] at hg
    simp only [Bool.and_eq_true, Bool.not_eq_true'] at hg
    obtain ⟨c, hb⟩ := Option.isSome_iff_exists.1 hg.1
    have e : execOp a.eval ⟨d, .call ⟨.value (.func f), xs, ts⟩, T, pos, af, g⟩ = callFunc f (#[] ++ xs.map a.eval ++ #[]) := rfl
    rw [e]
    have h1 : fn.name ≠ "runtime.NumGoroutine" := by simpa using hg.2
    simp [callFunc, hf, h1, hb]
theorem inText_go {K : Act → Prop} {d : Option Tmp} {f : FuncId} {xs : Array Operand} {ts : Array TypeId} {T : TypeId} {pos : String} {af : Array Edge} {g : Option (Nat × Bool)} {rest : List Oper} {a : Act} (args : List Value) (v : Value)
    (hw : Region.wanted ⟨d, .call ⟨.value (.func f), xs, ts⟩, T, pos, af, g⟩ (yielded ops a.tmps) = true) (hg : goes P f = true) (he : xs.toList.map a.eval = args)
    (hc : ∀ w, S w → Calls P f args.toArray w fun e w'' => e = .returned v ∧ S w'') (h : InText P S ops K rest (a.put d v)) : InText P S ops K (⟨d, .call ⟨.value (.func f), xs, ts⟩, T, pos, af, g⟩ :: rest) a :=
  ⟨v, .inr ⟨hw, fun w hs => by rw [run_go hg, show xs.map a.eval = args.toArray from by obtain ⟨xs⟩ := xs; subst he; exact List.map_toArray]; exact hc w hs⟩, h⟩
end
end Go.Proofs.YtdkindollljlnabGreatDoor

namespace Go.Proofs.YtdkindollljlnabGreatDoor
open Go Go.RowKit
variable [Known]

variable {P : Program} {w0 : Base} {env : Env} {σ : SH} {w : World}

theorem run_callFunc {f : FuncId} (hg : goes P f = true) (args : Array Value) (w : World) : (callFunc f args).run P w = .ok (.enter f args) w := by
  unfold goes at hg
  cases hf : P.funcs[f]? with
  | none => rw [hf] at hg; cases hg
  | some fn =>
    rw [hf] at hg
    simp only [Bool.and_eq_true, Bool.not_eq_true'] at hg
    obtain ⟨c, hb⟩ := Option.isSome_iff_exists.1 hg.1
    have h1 : fn.name ≠ "runtime.NumGoroutine" := by simpa using hg.2
    simp [callFunc, hf, h1, hb]

noncomputable def intO (st : Row) : Option Operand → Option (Option Int)
  | none => some none
  | some x => match evalS st x with
    | some (.int _ n) => some (some n)
    | _ => none
theorem intO_ok {st : Row} {a : Act} (hf : FRel env st a) {x : Option Operand} {i : Option Int} (h : intO st x = some i) : IntO (x.map a.eval) i := by
  unfold intO at h
  split at h
  · cases h; exact .inl ⟨rfl, rfl⟩
  · rename_i y
    split at h
    · rename_i k n hy; cases h
      have := evalS_den hf.tmps hy
      simp only [den, Option.some.injEq] at this
      exact .inr ⟨k, n, by rw [Option.map_some, this], rfl⟩
    · cases h

def zipIx : List Nat → List SV → List (Nat × SV)
  | i :: r, s :: t => (i, s) :: zipIx r t
  | _, _ => []
theorem zipIx_1 : ∀ {l : List Nat} {m : List SV}, l.length = m.length → (zipIx l m).map (·.1) = l := by
  intro l
  induction l with
  | nil => intro m _; cases m <;> rfl
  | cons i r ih => intro m h; cases m with
    | nil => cases h
    | cons s t => simp only [zipIx, List.map_cons]; rw [ih (by simpa using h)]
theorem zipIx_2 : ∀ {l : List Nat} {m : List SV}, l.length = m.length → (zipIx l m).map (·.2) = m := by
  intro l
  induction l with
  | nil => intro m h; cases m with
    | nil => rfl
    | cons s t => cases h
  | cons i r ih => intro m h; cases m with
    | nil => cases h
    | cons s t => simp only [zipIx, List.map_cons]; rw [ih (by simpa using h)]

/-- A written-out value without addresses. -/
def flatV : SV → Option Value
  | .agg l => match flatL l with
    | some vs => some (.agg vs.toArray)
    | none => none
  | s => flatC s
theorem flatV_den {s : SV} {v : Value} (h : flatV s = some v) : den env s = some v := by
  unfold flatV at h
  split at h
  · split at h
    · rename_i l vs hl; cases h; simp only [den, flatL_den hl]
    · cases h
  · cases s <;> simp only [flatC] at h <;> first | (cases h; done) | (cases h; rfl)
noncomputable def sCallOp (P : Program) (st : Row) (c : Call) (σ : SH) : Option SR := match c.callee with
  | .builtin .len => match c.args.toList, c.argTypes.toList with
    | [x], [T] => match evalS st x with
      | some s => match sLen P σ T s with
        | some t => some (.val t σ)
        | none => none
      | none => none
    | _, _ => none
  | .builtin .cap => match c.args.toList, c.argTypes.toList with
    | [x], [T] => match evalS st x with
      | some s => match sCap P T s with
        | some t => some (.val t σ)
        | none => none
      | none => none
    | _, _ => none
  | .builtin .append => match c.args.toList, c.argTypes.toList with
    | [x, y], [T, T'] => match evalS st x, evalS st y with
      | some s, some t => match sAppend P σ T T' s t with
        | some r => some r
        | none => sAppendZ P σ T T' s t
      | _, _ => none
    | _, _ => none
  | .builtin .copy => match c.args.toList, c.argTypes.toList with
    | [x, y], [T, T'] => match evalS st x, evalS st y with
      | some s, some t => match sCopy P σ T T' s t with
        | some (r, σ') => some (.val r σ')
        | none => none
      | _, _ => none
    | _, _ => none
  | .builtin .min => match c.args.toList with
    | [x, y] => match evalS st x, evalS st y with
      | some s, some t => match sMinMax false s t with
        | some r => some (.val r σ)
        | none => none
      | _, _ => none
    | _ => none
  | .builtin .max => match c.args.toList with
    | [x, y] => match evalS st x, evalS st y with
      | some s, some t => match sMinMax true s t with
        | some r => some (.val r σ)
        | none => none
      | _, _ => none
    | _ => none
  | .value f => match evalS st f, evalL st c.args.toList with
    | some (.fn (.func g) first captured), some l => if goes P g then some (.enter g (first ++ l ++ captured) σ) else none
    | _, _ => none
  | .invoke f name => match evalS st f, evalL st c.args.toList with
    | some (.iface t v), some l => match sMeth P t name with
      | some g => if goes P g then some (.enter g (v :: l) σ) else none
      | none => none
    | _, _ => none
  | _ => none
theorem sCallOp_ok (ho : env.ones) (h : Rel P w0 env σ w) {st : Row} {a : Act} (hf : FRel env st a) {c : Call} {r : SR} (hs : sCallOp P st c σ = some r) (d : Option Tmp) (ty : TypeId) (pos : String) (af : Array Edge) (g : Option (Nat × Bool)) :
    Outcome P w0 env ((execOp a.eval ⟨d, .call c, ty, pos, af, g⟩).run P w) r := by
  obtain ⟨callee, args, tys⟩ := c
  unfold sCallOp at hs
  simp only at hs
  split at hs
  · split at hs
    · rename_i x T ha ht
      split at hs
      · rename_i s hx
        split at hs
        · rename_i t hl; cases hs
          obtain ⟨u, hu, hrun⟩ := sLen_ok (ty := ty) h hl (evalS_den hf.tmps hx)
          have e1 : args = #[x] := by cases args; simp_all
          have e2 : tys = #[T] := by cases tys; simp_all
          subst e1; subst e2
          refine .same (v := u) ?_ h hu
          simp [execOp, resolve, invoke, builtin, hrun]
        · cases hs
      · cases hs
    · cases hs
  · split at hs
    · rename_i x T ha ht
      split at hs
      · rename_i s hx
        split at hs
        · rename_i t hl; cases hs
          obtain ⟨u, hu, hrun⟩ := sCap_ok (P := P) (w := w) (ty := ty) hl (evalS_den hf.tmps hx)
          have e1 : args = #[x] := by cases args; simp_all
          have e2 : tys = #[T] := by cases tys; simp_all
          subst e1; subst e2
          refine .same (v := u) ?_ h hu
          simp [execOp, resolve, invoke, builtin, hrun]
        · cases hs
      · cases hs
    · cases hs
  · split at hs
    · rename_i x y T T' ha ht
      split at hs
      · rename_i s t hx hy
        have key : ∃ q σ' env' v' w', r = .val q σ' ∧ (Builtin.append_ #[T, T'] ty #[a.eval x, a.eval y]).run P w = .ok v' w' ∧ env.le env' ∧ Rel P w0 env' σ' w' ∧ den env' q = some v' := by
          split at hs
          · rename_i r' hs'; cases hs
            exact sAppend_ok (ty := ty) ho h hs' (evalS_den hf.tmps hx) (evalS_den hf.tmps hy)
          · exact sAppendZ_ok (ty := ty) ho h hs (evalS_den hf.tmps hx) (evalS_den hf.tmps hy)
        obtain ⟨q, σ', env', v', w', rfl, hrun, hle, hrel, hd⟩ := key
        have e1 : args = #[x, y] := by cases args; simp_all
        have e2 : tys = #[T, T'] := by cases tys; simp_all
        subst e1; subst e2
        refine ⟨env', v', w', .inl ?_, hle, hrel, hd⟩
        simp [execOp, resolve, invoke, builtin, hrun]
      · cases hs
    · cases hs
  · split at hs
    · rename_i x y T T' ha ht
      split at hs
      · rename_i s t hx hy
        split at hs
        · rename_i q σ' hc; cases hs
          obtain ⟨v', w', hrun, hrel, hd⟩ := sCopy_ok (ty := ty) ho h hc (evalS_den hf.tmps hx) (evalS_den hf.tmps hy)
          have e1 : args = #[x, y] := by cases args; simp_all
          have e2 : tys = #[T, T'] := by cases tys; simp_all
          subst e1; subst e2
          refine ⟨env, v', w', .inl ?_, Env.le_refl _, hrel, hd⟩
          simp [execOp, resolve, invoke, builtin, hrun]
        · cases hs
      · cases hs
    · cases hs
  · split at hs
    · rename_i x y ha
      split at hs
      · rename_i s t hx hy
        split at hs
        · rename_i u hm; cases hs
          obtain ⟨v, hv, hrun⟩ := sMin_ok (P := P) (tys := tys) (ty := ty) hm (evalS_den hf.tmps hx) (evalS_den hf.tmps hy)
          have e1 : args = #[x, y] := by cases args; simp_all
          subst e1
          refine .same (v := v) ?_ h hv
          simp [execOp, resolve, invoke, builtin, hrun]
        · cases hs
      · cases hs
    · cases hs
  · split at hs
    · rename_i x y ha
      split at hs
      · rename_i s t hx hy
        split at hs
        · rename_i u hm; cases hs
          obtain ⟨v, hv, hrun⟩ := sMax_ok (P := P) (tys := tys) (ty := ty) hm (evalS_den hf.tmps hx) (evalS_den hf.tmps hy)
          have e1 : args = #[x, y] := by cases args; simp_all
          subst e1
          refine .same (v := v) ?_ h hv
          simp [execOp, resolve, invoke, builtin, hrun]
        · cases hs
      · cases hs
    · cases hs
  · split at hs
    · rename_i f q first captured l hx hl
      split at hs
      · rename_i hg; cases hs
        obtain ⟨u, v, hu, hv, e⟩ := den_fn (evalS_den hf.tmps hx)
        have hld := evalL_den hf.tmps hl
        refine ⟨u ++ args.toList.map a.eval ++ v, w, ?_, h, denL_append (denL_append hu hld) hv⟩
        have e2 : (u ++ args.toList.map a.eval ++ v).toArray = u.toArray ++ args.map a.eval ++ v.toArray := by
          obtain ⟨args⟩ := args; simp
        rw [e2]
        simp only [execOp, resolve, Sem.run_bind, e, Deferred.ofValue]
        exact run_callFunc hg _ w
      · cases hs
    · cases hs
  · rename_i f name
    split at hs
    · rename_i t v l hx hl
      split at hs
      · rename_i g hm
        split at hs
        · rename_i hg; cases hs
          obtain ⟨u, hu, e⟩ := den_iface (evalS_den hf.tmps hx)
          have hld := evalL_den hf.tmps hl
          refine ⟨u :: args.toList.map a.eval, w, ?_, h, denL_mk hu hld⟩
          have hrun := sMeth_ok hm (P.types.size + 99) u w
          have e2 : (u :: args.toList.map a.eval).toArray = #[u] ++ args.map a.eval := by
            obtain ⟨args⟩ := args; simp
          rw [e2]
          have e3 : ∀ (r : Value) (m : Array Value), (#[r] ++ m).extract 1 (#[r] ++ m).size = m := fun r m => by
            obtain ⟨m⟩ := m; simp [List.take_of_length_le]
          have e4 : ∀ (r : Value) (m : Array Value), (#[r] ++ m)[0]? = some r := fun r m => by
            obtain ⟨m⟩ := m; simp
          have e5 : P.types.size + Made.depth = P.types.size + 99 + 1 := rfl
          simp only [execOp, resolve, Sem.run_bind, Sem.run_pure, Result.andThen_ok, e, invoke, e4, e3, callMethod, run_program, e5, hrun]
          exact run_callFunc hg _ w
        · cases hs
      · cases hs
    · cases hs
  · cases hs

noncomputable def sOp (P : Program) : OpF := fun st o σ => match o.op with
  | .move x | .assign x => match evalS st x with
    | some s => some (.val s σ)
    | none => none
  | .pick c a b => match evalS st c, evalS st a, evalS st b with
    | some c, some a, some b => sPick c a b σ
    | _, _, _ => none
  | .alloc T => sAlloc P σ T
  | .box T x => match evalS st x with
    | some s => some (sBox σ T s)
    | none => none
  | .build T parts => match evalL st (parts.toList.map (·.2)) with
    | some l => sBuild P σ T (zipIx (parts.toList.map (·.1)) l)
    | none => none
  | .buildSlice T n parts => match evalL st (parts.toList.map (·.2)) with
    | some [] => match n with
      | 0 => sBuildNone P σ T
      | n + 1 => sBuildSlice P σ T (n + 1) []
    | some l => sBuildSlice P σ T n (zipIx (parts.toList.map (·.1)) l)
    | none => none
  | .load T x => match evalS st x with
    | some s => sLoad P σ T s
    | none => none
  | .store T x y => match evalS st x, evalS st y with
    | some a, some s => sStore P σ T a s
    | _, _ => none
  | .nilCheck x => match evalS st x with
    | some s => sNilCheck σ s
    | none => none
  | .binOp op T x y _ => match evalS st x, evalS st y with
    | some a, some b => sBinary P σ op T x y a b
    | _, _ => none
  | .unOp op _ x => match evalS st x with
    | some s => sPure1 P σ (Op.unary op) s
    | none => none
  | .convert S D x => match evalS st x with
    | some s => sConvert2 P σ S D s
    | none => none
  | .makeInterface T x => match evalS st x with
    | some s => sMakeIface P σ T s
    | none => none
  | .makeFunc f xs ys => match evalL st xs.toList, evalL st ys.toList with
    | some l, some m => some (.val (.fn f l m) σ)
    | _, _ => none
  | .makeMap _ none => some (.val (.map σ.next) (σ.push (.map [])))
  | .slice T x lo hi mx => match evalS st x, intO st lo, intO st hi, intO st mx with
    | some s, some a, some b, some c => sSlice P σ T s a b c
    | _, _, _, _ => none
  | .fieldAddr S x f => match evalS st x with
    | some s => sFieldAddr P σ S f s
    | none => none
  | .field S x f => match evalS st x with
    | some s => sField P σ S f s
    | none => none
  | .indexAddr T x i => match evalS st x, evalS st i with
    | some s, some t => sIndexAddr P σ T s t
    | _, _ => none
  | .index T x i => match evalS st x, evalS st i with
    | some s, some t => sIndex P σ T s t
    | _, _ => none
  | .extract x i => match evalS st x with
    | some s => sExtract σ i s
    | none => none
  | .makeSlice T x y => match evalS st x, evalS st y with
    | some a, some b => sMakeSlice P σ T a b
    | _, _ => none
  | .typeAssert x _ A ok => match evalS st x with
    | some s => sAssert P σ A ok s
    | none => none
  | .lookup T x k ok => match evalS st x, evalS st k with
    | some a, some b => match b with
      | .str l => sLookupStr P σ T ok a (.str l)
      | .int kd l => sLookupInt P σ T ok a (.int kd l)
      | b => sLookup P σ T ok a b
    | _, _ => none
  | .mapUpdate T x k v => match evalS st x, evalS st k, evalS st v with
    | some a, some b, some c => match b with
      | .str l => sMapUpdStr P σ T a (.str l) c
      | .int kd l => sMapUpdInt P σ T a (.int kd l) c
      | b => sMapUpd P σ T a b c
    | _, _, _ => none
  | .range T x => match evalS st x with
    | some s => sRange P σ T s
    | none => none
  | .next x b => match evalS st x with
    | some s => sNext P σ b s
    | none => none
  | .entry x => match evalS st x with
    | some s => sEntry σ s
    | none => none
  | .sliceToArrayPointer T x => match evalS st x with
    | some s => sArr P σ T s
    | none => none
  | .call c => sCallOp P st c σ
  | _ => none

theorem evalL_length {st : Row} : ∀ {xs : List Operand} {l : List SV}, evalL st xs = some l → l.length = xs.length := by
  intro xs
  induction xs with
  | nil => intro l h; simp only [evalL] at h; cases h; rfl
  | cons x r ih =>
    intro l h
    simp only [evalL] at h
    cases h1 : evalS st x with
    | none => rw [h1] at h; cases h
    | some s =>
      cases h2 : evalL st r with
      | none => rw [h1, h2] at h; cases h
      | some m => rw [h1, h2] at h; cases h; simp [ih h2]

theorem sOp_ok : OpSound P w0 (sOp P) := by
  intro st o σ r env a w hs ho h hf
  obtain ⟨d, op, ty, pos, af, g⟩ := o
  have E : ∀ {x : Operand} {s : SV}, evalS st x = some s → den env s = some (a.eval x) := fun hx => evalS_den hf.tmps hx
  unfold sOp at hs
  cases op <;> simp only at hs <;> try (cases hs; done)
  case move x =>
    split at hs
    · rename_i s hx
      cases hs; exact .same (by simp [execOp]) h (E hx)
    · cases hs
  case assign x =>
    split at hs
    · rename_i s hx
      cases hs; exact .same (by simp [execOp]) h (E hx)
    · cases hs
  case pick c x y =>
    split at hs
    · rename_i s t u hx hy hz
      exact sPick_ok h hs (E hx) (E hy) (E hz) d ty pos af g
    · cases hs
  case alloc T => exact sAlloc_ok ho h hs _ d ty pos af g
  case box T x =>
    split at hs
    · rename_i s hx
      cases hs; exact sBox_ok ho h (E hx) d ty pos af g
    · cases hs
  case build T parts =>
    split at hs
    · rename_i s hx
      exact sBuild_ok ho h hs (zipIx_1 (by rw [evalL_length hx]; simp)) (by rw [zipIx_2 (by rw [evalL_length hx]; simp), evalL_den hf.tmps hx, List.map_map]; rfl) d ty pos af g
    · cases hs
  case buildSlice T n parts =>
    split at hs
    · rename_i hx
      have hp : parts = #[] := by
        have := evalL_length hx
        simpa using this.symm
      subst hp
      split at hs
      · exact sBuildNone_ok ho h hs d ty pos af g
      · rename_i n
        exact sBuildSlice_ok ho h hs (by simp) (by simp only [List.map_nil, List.map]; rfl) d ty pos af g
    · rename_i s _ hx
      exact sBuildSlice_ok ho h hs (zipIx_1 (by rw [evalL_length hx]; simp)) (by rw [zipIx_2 (by rw [evalL_length hx]; simp), evalL_den hf.tmps hx, List.map_map]; rfl) d ty pos af g
    · cases hs
  case load T x =>
    split at hs
    · rename_i s hx
      exact sLoad_ok h hs (E hx) d ty pos af g
    · cases hs
  case store T x y =>
    split at hs
    · rename_i s t hx hy
      exact sStore_ok ho h hs (E hx) (E hy) d ty pos af g
    · cases hs
  case nilCheck x =>
    split at hs
    · rename_i s hx
      exact sNilCheck_ok h hs (E hx) d ty pos af g
    · cases hs
  case binOp op T x y B =>
    split at hs
    · rename_i s t hx hy
      exact sBinary_ok h hs (E hx) (E hy) d ty pos af g
    · cases hs
  case unOp op T x =>
    split at hs
    · rename_i s hx
      exact sUn_ok h hs (E hx) d ty pos af g
    · cases hs
  case convert S D x =>
    split at hs
    · rename_i s hx
      exact sConvert2_ok h hs (E hx) d ty pos af g
    · cases hs
  case makeInterface T x =>
    split at hs
    · rename_i s hx
      exact sMakeIface_ok h hs (E hx) d ty pos af g
    · cases hs
  case makeFunc f xs ys =>
    split at hs
    · rename_i l m hx hy
      cases hs; exact sMakeFunc_ok h (evalL_den hf.tmps hx) (evalL_den hf.tmps hy) d ty pos af g
    · cases hs
  case makeMap T r0 =>
    cases r0 with
    | none => simp only at hs; cases hs; exact sMakeMap_ok h d ty pos af g
    | some _ => simp only at hs; cases hs
  case slice T x lo hi mx =>
    split at hs
    · rename_i s p q u hx h1 h2 h3
      exact sSlice_ok h hs (E hx) (intO_ok hf h1) (intO_ok hf h2) (intO_ok hf h3) d ty pos af g
    · cases hs
  case fieldAddr S x f =>
    split at hs
    · rename_i s hx
      exact sFieldAddr_ok h hs (E hx) d ty pos af g
    · cases hs
  case field S x f =>
    split at hs
    · rename_i s hx
      exact sField_ok h hs (E hx) d ty pos af g
    · cases hs
  case indexAddr T x i =>
    split at hs
    · rename_i s t hx hy
      exact sIndexAddr_ok h hs (E hx) (E hy) d ty pos af g
    · cases hs
  case index T x i =>
    split at hs
    · rename_i s t hx hy
      exact sIndex_ok h hs (E hx) (E hy) d ty pos af g
    · cases hs
  case extract x i =>
    split at hs
    · rename_i s hx
      exact sExtract_ok h hs (E hx) d ty pos af g
    · cases hs
  case makeSlice T x y =>
    split at hs
    · rename_i s t hx hy
      exact sMakeSlice_ok ho h hs (E hx) (E hy) d ty pos af g
    · cases hs
  case typeAssert x X A ok =>
    split at hs
    · rename_i s hx
      exact sAssert_ok h hs (E hx) d ty pos af g
    · cases hs
  case lookup T x k ok =>
    split at hs
    · rename_i s t hx hy
      split at hs
      · exact sLookupStr_ok h hs (E hx) (E hy) d ty pos af g
      · exact sLookupInt_ok h hs (E hx) (E hy) d ty pos af g
      · exact sLookup_ok h hs (E hx) (E hy) d ty pos af g
    · cases hs
  case mapUpdate T x k v =>
    split at hs
    · rename_i s t u hx hy hz
      split at hs
      · exact sMapUpdStr_ok h hs (E hx) (E hy) (E hz) d ty pos af g
      · exact sMapUpdInt_ok h hs (E hx) (E hy) (E hz) d ty pos af g
      · exact sMapUpd_ok h hs (E hx) (E hy) (E hz) d ty pos af g
    · cases hs
  case range T x =>
    split at hs
    · rename_i s hx
      exact sRange_ok h hs (E hx) d ty pos af g
    · cases hs
  case next x b =>
    split at hs
    · rename_i s hx
      exact sNext_ok h hs (E hx) d ty pos af g
    · cases hs
  case entry x =>
    split at hs
    · rename_i s hx
      exact sEntry_ok h hs (E hx) d ty pos af g
    · cases hs
  case sliceToArrayPointer T x =>
    split at hs
    · rename_i s hx
      exact sArr_ok h hs (E hx) d ty pos af g
    · cases hs
  case call c => exact sCallOp_ok ho h hf hs d ty pos af g
end Go.Proofs.YtdkindollljlnabGreatDoor

