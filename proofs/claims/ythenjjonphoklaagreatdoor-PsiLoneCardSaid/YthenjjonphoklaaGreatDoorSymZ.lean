/-
  THE EXECUTOR, part Z: ranges over strings and over maps of at most one entry; maps with string keys; copy; slices as arrays.
-/
import Derived.Test.YthenjjonphoklaaGreatDoorSymX
import Derived.MapKept
import Derived.Laws.StructEq
set_option linter.unusedVariables false
set_option linter.unusedSimpArgs false
namespace Go.Proofs.YthenjjonphoklaaGreatDoor
open Go Go.RowKit

variable {P : Program} {w0 : Base} {env : Env} {σ : SH} {w : World}

theorem beq_bytesOf (a b : List Nat) : (bytesOf a == bytesOf b) = eqBytes a b := by
  rw [beq_toListBytes, toList_data', toList_data', bytesOf_list, bytesOf_list, eqBytes_spec]

/-- A new block of whatever kind. -/
theorem Rel.newObj (h : Rel P w0 env σ w) {o : Obj} {so : SO} (ho : ∀ w' : World, w'.heap[w.heap.size]? = some o → ∀ env', env.le env' → ORel P env' w' w.heap.size 0 so) :
    Rel P w0 (env.push σ.next w.heap.size 0) (σ.push so) (w.alloc o) ∧ den (env.push σ.next w.heap.size 0) (.ptr σ.next 0) = some (.pointer (some ⟨w.heap.size, 0, none⟩)) := by
  refine ⟨h.push (ho _ (heap_alloc_new w o) _ (h.le_push _ _)), ?_⟩
  have h2 : (env.push σ.next w.heap.size 0).blocks σ.next = some (w.heap.size, 0) := Env.new _ _ _ _
  simp only [den, h2]

noncomputable def sRange (P : Program) (σ : SH) (T : TypeId) (x : SV) : Option SR := match P.underlying T with
  | some .string => match x with
    | .str l => some (.val (.ptr σ.next 0) (σ.push (.siter l 0)))
    | _ => none
  | some (.map _ _) => match x with
    | .nilm => some (.val (.ptr σ.next 0) (σ.push (.miter .nilm 0 [] 0)))
    | .map n => match σ.get n with
      | some (.map es) => some (.val (.ptr σ.next 0) (σ.push (.miter (.map n) es.length [] es.length)))
      | _ => none
    | _ => none
  | _ => none
theorem sRange_ok (h : Rel P w0 env σ w) {T : TypeId} {s : SV} {r : SR} (hs : sRange P σ T s = some r) {x : Operand} {ρ : Operand → Value} (hd : den env s = some (ρ x)) (d : Option Tmp) (ty : TypeId) (pos : String) (af : Array Edge) (g : Option (Nat × Bool)) :
    Outcome P w0 env ((execOp ρ ⟨d, .range T x, ty, pos, af, g⟩).run P w) r := by
  unfold sRange at hs
  split at hs
  · rename_i hu
    split at hs
    · rename_i l; cases hs
      simp only [den, Option.some.injEq] at hd
      obtain ⟨h1, h2⟩ := h.newObj (o := .stringIter (bytesOf l) 0) (so := .siter l 0) (fun w' hw' _ _ => hw')
      exact ⟨_, _, _, .inl (by simp [execOp, Instr.range, run_underlying hu, ← hd]), h.le_push _ _, h1, h2⟩
    · cases hs
  · rename_i kt et hu
    split at hs
    · cases hs
      simp only [den, Option.some.injEq] at hd
      obtain ⟨h1, h2⟩ := h.newObj (o := .mapIter none 0 #[] 0) (so := .miter .nilm 0 [] 0) (fun w' hw' _ _ => ⟨none, rfl, hw'⟩)
      exact ⟨_, _, _, .inl (by simp [execOp, Instr.range, run_underlying hu, ← hd]), h.le_push _ _, h1, h2⟩
    · rename_i n
      split at hs
      · rename_i es hn; cases hs
        obtain ⟨b, c, he, em⟩ := den_map hd
        obtain ⟨b', c', e1, hb, ents, clock, ks, vs, g1, g2, g3, g4, g5, g6, _⟩ := h.obj n _ hn
        rw [he] at e1; cases e1
        have hsz : clock = es.length := by
          have := denL_length g2
          rw [← g4] at this
          rw [g6]; simpa using this
        obtain ⟨h1, h2⟩ := h.newObj (o := .mapIter (some b) es.length #[] es.length) (so := .miter (.map n) es.length [] es.length) (fun w' hw' env' hle => ⟨some b, by simp only [den, hle.some n _ he], hw'⟩)
        exact ⟨_, _, _, .inl (by simp [execOp, Instr.range, run_underlying hu, em, run_getObj_map g1, hsz]), h.le_push _ _, h1, h2⟩
      · cases hs
    · cases hs
  · cases hs

theorem decode_ascii (l : List Nat) (pos b : Nat) (hb : l[pos]? = some b) (h : b < 128) : Utf8.decode (bytesOf l) pos = (b, 1) := by
  have hlt : pos < l.length := (List.getElem?_eq_some_iff.1 hb).1
  have e : (bytesOf l).get! pos = UInt8.ofNat b := by
    have hdat : (bytesOf l).data[pos]? = some (UInt8.ofNat b) := by unfold bytesOf; simp [hb]
    show (bytesOf l).data[pos]! = _
    rw [Array.getElem!_eq_getD, Array.getD_eq_getD_getElem?, hdat]; rfl
  have e2 : ((bytesOf l).get! (pos + 0)).toNat = b := by
    rw [Nat.add_zero, e]
    simp; omega
  unfold Utf8.decode
  simp only [e2]
  rw [if_pos (by omega)]

noncomputable def sNext (P : Program) (σ : SH) (isString : Bool) : SV → Option SR
  | .ptr n 0 => match σ.get n, isString with
    | some (.siter l pos), true => match l[pos]? with
      | some b => if b < 128 then some (.val (.tuple [.bool true, .int .i64 (pos : Nat), .int .i32 (b : Nat)]) (σ.put n (some (.siter l (pos + 1))))) else none
      | none => some (.val (.tuple [.bool false]) σ)
    | some (.miter .nilm _ _ _), false => some (.val (.tuple [.bool false]) σ)
    | some (.miter (.map m) since seen last), false => match σ.get m with
      | some (.map []) => some (.val (.tuple [.bool false]) σ)
      | some (.map [(k, v)]) => match since, seen, last with
        | 1, [], 1 => some (.val (.tuple [.bool true, k, v]) (σ.put n (some (.miter (.map m) 1 [0] 1))))
        | 1, [0], 1 => some (.val (.tuple [.bool false]) σ)
        | _, _, _ => none
      | _ => none
    | _, _ => none
  | _ => none
theorem den_triple {s t u : SV} {x y z : Value} (h1 : den env s = some x) (h2 : den env t = some y) (h3 : den env u = some z) : den env (.tuple [s, t, u]) = some (.tuple #[x, y, z]) := by
  simp only [den, denL, h1, h2, h3]
def notRow : Obj → Bool
  | .cells _ _ _ => false
  | _ => true
theorem run_getObj_any {r : Nat} {o : Obj} (hb : w.heap[r]? = some o) (hn : notRow o = true := by rfl) : (getObj r).run P w = .ok o w := by cases o <;> first | (cases hn; done) | simp [getObj, Sem.run, hb]
theorem run_setObj_any {r : Nat} {o : Obj} (o' : Obj) (hb : w.heap[r]? = some o) (hn : notRow o = true := by rfl) : (setObj r o').run P w = .ok () { w with heap := w.heap.setIfInBounds r o' } := by cases o <;> first | (cases hn; done) | simp [setObj, Sem.run, hb]
theorem Rel.setObj {n b c : Nat} {so so' : SO} {o o' : Obj} (h : Rel P w0 env σ w) (hn : σ.get n = some so) (he : env.blocks n = some (b, c)) (hb : w.heap[b]? = some o) (ho : ∀ w' : World, w'.heap[b]? = some o' → ORel P env w' b c so') :
    Rel P w0 env (σ.put n (some so')) { w with heap := w.heap.setIfInBounds b o' } := by
  have hblt : b < w.heap.size := (Array.getElem?_eq_some_iff.1 hb).1
  exact h.put hn he rfl rfl rfl (by simp) (fun q hq hne => by simp [Array.getElem?_setIfInBounds_ne (Ne.symm hne)]) (fun x hx => by cases hx; exact ho _ (by simp [hblt]))
theorem forced_one : (Question.mapNext 1).forced = true := by first | rfl | decide
theorem one_entry {k v : SV} {ents : Array MapEntry} {ks vs : List Value} (g2 : denL env ([(k, v)].map (·.1)) = some ks) (g3 : denL env ([(k, v)].map (·.2)) = some vs) (g4 : ents.toList.map (·.key) = ks) (g5 : ents.toList.map (·.val) = vs)
    (g7 : ∀ (i : Nat) (x : MapEntry), ents[i]? = some x → x.born = i) : ∃ e, ents = #[e] ∧ den env k = some e.key ∧ den env v = some e.val ∧ e.born = 0 := by
  subst g4; subst g5
  have hl := denL_length g2
  obtain ⟨l⟩ := ents
  match l, hl with
  | [e], _ =>
    obtain ⟨a, b, d1, d2, e1⟩ := denL_cons g2
    obtain ⟨a', b', d1', d2', e1'⟩ := denL_cons g3
    simp only [List.map_cons, List.map_nil, List.cons.injEq] at e1 e1'
    obtain ⟨rfl, _⟩ := e1
    obtain ⟨rfl, _⟩ := e1'
    exact ⟨e, rfl, d1, d1', g7 0 e rfl⟩
theorem no_entry {ents : Array MapEntry} {ks : List Value} (g2 : denL env (([] : List (SV × SV)).map (·.1)) = some ks) (g4 : ents.toList.map (·.key) = ks) : ents = #[] := by
  subst g4
  have hl := denL_length g2
  obtain ⟨l⟩ := ents
  match l, hl with
  | [], _ => rfl
theorem sNext_ok (h : Rel P w0 env σ w) {isString : Bool} {s : SV} {r : SR} (hs : sNext P σ isString s = some r) {x : Operand} {ρ : Operand → Value} (hd : den env s = some (ρ x)) (d : Option Tmp) (ty : TypeId) (pos : String) (af : Array Edge) (g : Option (Nat × Bool)) :
    Outcome P w0 env ((execOp ρ ⟨d, .next x isString, ty, pos, af, g⟩).run P w) r := by
  unfold sNext at hs
  split at hs
  · rename_i n
    obtain ⟨bi, ci, hei, hvi⟩ := den_ptr hd
    split at hs
    · rename_i l p hn
      obtain ⟨b', c', e1, hb, g1⟩ := h.obj n _ hn
      rw [hei] at e1; cases e1
      have g1 : w.heap[bi]? = some (.stringIter (bytesOf l) p) := g1
      split at hs
      · rename_i b hlb
        split at hs
        · rename_i hb128; cases hs
          have hlt : p < l.length := (List.getElem?_eq_some_iff.1 hlb).1
          have hr := h.setObj (o' := .stringIter (bytesOf l) (p + 1)) (so' := .siter l (p + 1)) hn hei g1 (fun w' hw' => hw')
          have hp : p < (bytesOf l).size := by rw [bytesOf_size]; exact hlt
          exact ⟨env, .tuple #[.bool true, .int .i64 (p : Nat), .int .i32 (b : Nat)], _, .inl (by simp [execOp, Instr.next, hvi, run_getObj_any g1, hp, decode_ascii l p b hlb hb128, run_setObj_any _ g1, goInt]), Env.le_refl _, hr, den_triple rfl rfl rfl⟩
        · cases hs
      · rename_i hlb; cases hs
        have hp : ¬ p < (bytesOf l).size := by rw [bytesOf_size]; exact Nat.not_lt.2 (List.getElem?_eq_none_iff.1 hlb)
        exact .same (v := .tuple #[.bool false]) (by simp [execOp, Instr.next, hvi, run_getObj_any g1, hp]) h rfl
    · rename_i since seen last hn; cases hs
      obtain ⟨b', c', e1, hb, r0, g0, g1⟩ := h.obj n _ hn
      rw [hei] at e1; cases e1
      simp only [den, Option.some.injEq] at g0; cases g0
      exact .same (v := .tuple #[.bool false]) (by simp [execOp, Instr.next, hvi, run_getObj_any g1]) h rfl
    · rename_i m since seen last hn
      obtain ⟨b', c', e1, hb, r0, g0, g1⟩ := h.obj n _ hn
      rw [hei] at e1; cases e1
      obtain ⟨bm, cm, hem, er0⟩ := den_map g0
      cases er0
      split at hs
      · rename_i hm; cases hs
        obtain ⟨b', c', e1, hb', ents, clock, ks, vs, q1, q2, q3, q4, q5, q6, q7⟩ := h.obj m _ hm
        rw [hem] at e1; cases e1
        obtain rfl := no_entry q2 q4
        exact .same (v := .tuple #[.bool false]) (by simp [execOp, Instr.next, hvi, run_getObj_any g1, run_getObj_map q1, forced_one]) h rfl
      · rename_i k v hm
        obtain ⟨b', c', e1, hb', ents, clock, ks, vs, q1, q2, q3, q4, q5, q6, q7⟩ := h.obj m _ hm
        rw [hem] at e1; cases e1
        obtain ⟨e, rfl, dk, dv, hborn⟩ := one_entry q2 q3 q4 q5 q7
        obtain rfl : clock = 1 := q6
        split at hs
        · cases hs
          have hr := h.setObj (o' := .mapIter (some bm) 1 #[0] 1) (so' := .miter (.map m) 1 [0] 1) hn hei g1 (fun w' hw' => ⟨_, g0, hw'⟩)
          exact ⟨env, .tuple #[.bool true, e.key, e.val], _, .inl (by simp [execOp, Instr.next, hvi, run_getObj_any g1, run_getObj_map q1, hborn, forced_one, run_setObj_any _ g1]), Env.le_refl _, hr, den_triple rfl dk dv⟩
        · cases hs
          exact .same (v := .tuple #[.bool false]) (by simp [execOp, Instr.next, hvi, run_getObj_any g1, run_getObj_map q1, hborn, forced_one]) h rfl
        · cases hs
      · cases hs
    · cases hs
  · cases hs

noncomputable def sEntry (σ : SH) : SV → Option SR
  | .ptr n 0 => match σ.get n with
    | some (.miter (.map m) 1 [0] 1) => match σ.get m with
      | some (.map [(k, v)]) => some (.val (.tuple [k, v]) σ)
      | _ => none
    | _ => none
  | _ => none
theorem sEntry_ok (h : Rel P w0 env σ w) {s : SV} {r : SR} (hs : sEntry σ s = some r) {x : Operand} {ρ : Operand → Value} (hd : den env s = some (ρ x)) (d : Option Tmp) (ty : TypeId) (pos : String) (af : Array Edge) (g : Option (Nat × Bool)) :
    Outcome P w0 env ((execOp ρ ⟨d, .entry x, ty, pos, af, g⟩).run P w) r := by
  unfold sEntry at hs
  split at hs
  · rename_i n
    obtain ⟨bi, ci, hei, hvi⟩ := den_ptr hd
    split at hs
    · rename_i m hn
      obtain ⟨b', c', e1, hb, r0, g0, g1⟩ := h.obj n _ hn
      rw [hei] at e1; cases e1
      obtain ⟨bm, cm, hem, er0⟩ := den_map g0
      cases er0
      split at hs
      · rename_i k v hm; cases hs
        obtain ⟨b', c', e1, hb', ents, clock, ks, vs, q1, q2, q3, q4, q5, q6, q7⟩ := h.obj m _ hm
        rw [hem] at e1; cases e1
        obtain ⟨e, rfl, dk, dv, hborn⟩ := one_entry q2 q3 q4 q5 q7
        obtain rfl : clock = 1 := q6
        exact .same (v := .tuple #[e.key, e.val]) (by simp [execOp, Instr.entry, hvi, run_getObj_any g1, run_getObj_map q1, hborn]) h (den_pair dk dv)
      · cases hs
    · cases hs
  · cases hs

/-- Where a string key stands. -/
noncomputable def sFindStr (k : List Nat) : List (SV × SV) → Nat → Option (Option (Nat × SV))
  | [], _ => some none
  | (.str l, v) :: r, i => if eqBytes k l then some (some (i, v)) else sFindStr k r (i + 1)
  | _ :: _, _ => none
theorem sFindStr_ok {k : List Nat} : ∀ (es : List (SV × SV)) (ents : List MapEntry) (i : Nat) (res : Option (Nat × SV)), sFindStr k es i = some res →
    denL env (es.map (·.1)) = some (ents.map (·.key)) → denL env (es.map (·.2)) = some (ents.map (·.val)) →
    match res with
    | none => Instr.findNow .string (.string (bytesOf k)) ents i = some none
    | some (j, s) => ∃ v e, den env s = some v ∧ Instr.findNow .string (.string (bytesOf k)) ents i = some (some (j, v)) ∧ i ≤ j ∧ ents[j - i]? = some e ∧ e.key = .string (bytesOf k) := by
  intro es
  induction es with
  | nil =>
    intro ents i res h h1 h2
    simp only [sFindStr] at h; cases h
    have : ents = [] := by
      have := denL_length h1
      simpa using this
    subst this
    simp [Instr.findNow]
  | cons x r ih =>
    intro ents i0 res h h1 h2
    obtain ⟨ks, vs⟩ := x
    cases ents with
    | nil => have := denL_length h1; simp at this
    | cons e er =>
      simp only [List.map_cons] at h1 h2
      obtain ⟨a, b, d1, d2, e1⟩ := denL_cons h1
      obtain ⟨a', b', d1', d2', e1'⟩ := denL_cons h2
      simp only [List.cons.injEq] at e1 e1'
      obtain ⟨rfl, rfl⟩ := e1
      obtain ⟨rfl, rfl⟩ := e1'
      obtain ⟨i1, hi1⟩ : ∃ i1, i1 = i0 := ⟨_, rfl⟩
      unfold sFindStr at h
      split at h
      · rename_i heq; cases heq
      · rename_i l v r' heq
        simp only [List.cons.injEq, Prod.mk.injEq] at heq
        obtain ⟨⟨rfl, rfl⟩, rfl⟩ := heq
        simp only [den, Option.some.injEq] at d1
        have hs : Instr.sameNow .string (.string (bytesOf k)) e.key = some (eqBytes k l) := by rw [← d1]; simp [Instr.sameNow, beq_bytesOf]
        split at h
        · rename_i ht; cases h
          refine ⟨_, e, d1', by simp [Instr.findNow, hs, ht], Nat.le_refl _, by simp, ?_⟩
          rw [← d1]
          have := beq_bytesOf k l
          rw [ht] at this
          rw [beq_toListBytes] at this
          have := eq_of_beq this
          rw [toList_data', toList_data'] at this
          have : bytesOf l = bytesOf k := by
            have e2 : (bytesOf l).data = (bytesOf k).data := Array.ext' this.symm
            calc bytesOf l = ⟨(bytesOf l).data⟩ := rfl
              _ = ⟨(bytesOf k).data⟩ := by rw [e2]
          rw [this]
        · rename_i ht
          have ht : eqBytes k l = false := by simpa using ht
          rw [ht] at hs
          have := ih er _ res h d2 d2'
          cases res with
          | none => simpa [Instr.findNow, hs] using this
          | some js =>
            obtain ⟨j, s⟩ := js
            obtain ⟨v', e', hv', hrun, hle, hget, hkey⟩ := this
            refine ⟨v', e', hv', by simpa [Instr.findNow, hs] using hrun, by omega, ?_, hkey⟩
            rw [← hi1] at hget hle ⊢
            have : j - i1 = (j - (i1 + 1)) + 1 := by omega
            rw [this]; simpa using hget
      · cases h

theorem check_str {kt : TypeId} (hk : P.underlying kt = some .string) (s : ByteArray) (em : Bool) (w : World) : (Instr.checkKey em 10000 kt (.string s)).run P w = .ok () w :=
  Go.MapKept.run_checkKey hk (k := .string s) trivial em 9999

noncomputable def sLookupStr (P : Program) (σ : SH) (T : TypeId) (ok : Bool) (m k : SV) : Option SR := match P.underlying T, k with
  | some (.map kt et), .str l => match P.underlying kt with
    | some .string => (match m with
      | .map n => match σ.get n with
        | some (.map es) => match sFindStr l es 0, szero P et with
          | some (some (_, v)), some _ => some (.val (if ok then .tuple [v, .bool true] else v) σ)
          | some none, some z => some (.val (if ok then .tuple [z, .bool false] else z) σ)
          | _, _ => none
        | _ => none
      | .nilm => match szero P et with
        | some z => some (.val (if ok then .tuple [z, .bool false] else z) σ)
        | none => none
      | _ => none)
    | _ => none
  | _, _ => none
theorem sLookupStr_ok (h : Rel P w0 env σ w) {T : TypeId} {ok : Bool} {s t : SV} {r : SR} (hs : sLookupStr P σ T ok s t = some r) {x y : Operand} {ρ : Operand → Value} (h1 : den env s = some (ρ x)) (h2 : den env t = some (ρ y)) (d : Option Tmp) (ty : TypeId) (pos : String) (af : Array Edge) (g : Option (Nat × Bool)) :
    Outcome P w0 env ((execOp ρ ⟨d, .lookup T x y ok, ty, pos, af, g⟩).run P w) r := by
  unfold sLookupStr at hs
  split at hs
  · rename_i kt et l hu
    simp only [den, Option.some.injEq] at h2
    split at hs
    · rename_i hk
      have hck : ∀ em w, (Instr.checkKey em 10000 kt (ρ y)).run P w = .ok () w := fun em w => by rw [← h2]; exact check_str hk _ em w
      split at hs
      · rename_i n
        split at hs
        · rename_i es hn
          obtain ⟨b, c, he, em⟩ := den_map h1
          obtain ⟨b', c', e1, hb, ents, clock, ks, vs, g1, g2, g3, g4, g5, _⟩ := h.obj n _ hn
          rw [he] at e1; cases e1
          subst g4; subst g5
          split at hs
          · rename_i j v z hf hz; cases hs
            obtain ⟨u, e, hu2, hrun, _⟩ := sFindStr_ok es ents.toList 0 _ hf g2 g3
            have hrun := Go.MapKept.run_findKey (P := P) (w := w) hk hrun
            rw [h2] at hrun
            cases ok with
            | true => exact .same (v := .tuple #[u, .bool true]) (by simp [execOp, Instr.lookup, run_underlying hu, em, run_getObj_map g1, hck, hrun]) h (den_pair hu2 rfl)
            | false => exact .same (v := u) (by simp [execOp, Instr.lookup, run_underlying hu, em, run_getObj_map g1, hck, hrun]) h hu2
          · rename_i z hf hz; cases hs
            have hrun := sFindStr_ok es ents.toList 0 _ hf g2 g3
            simp only at hrun
            have hrun := Go.MapKept.run_findKey (P := P) (w := w) hk hrun
            rw [h2] at hrun
            obtain ⟨zv, hdz, hzr⟩ := szero_ok (env := env) hz
            cases ok with
            | true => exact .same (v := .tuple #[zv, .bool false]) (by simp [execOp, Instr.lookup, run_underlying hu, em, run_getObj_map g1, hck, hrun, hzr]) h (den_pair hdz rfl)
            | false => exact .same (v := zv) (by simp [execOp, Instr.lookup, run_underlying hu, em, run_getObj_map g1, hck, hrun, hzr]) h hdz
          · cases hs
        · cases hs
      · split at hs
        · rename_i z hz; cases hs
          simp only [den, Option.some.injEq] at h1
          obtain ⟨zv, hdz, hzr⟩ := szero_ok (env := env) hz
          have k3 : (Instr.findKey kt (ρ y) []).run P w = .ok none w := Go.MapKept.run_findKey hk rfl
          cases ok with
          | true => exact .same (v := .tuple #[zv, .bool false]) (by simp [execOp, Instr.lookup, run_underlying hu, ← h1, hck, k3, hzr]) h (den_pair hdz rfl)
          | false => exact .same (v := zv) (by simp [execOp, Instr.lookup, run_underlying hu, ← h1, hck, k3, hzr]) h hdz
        · cases hs
      · cases hs
    · cases hs
  · cases hs

noncomputable def sMapUpdStr (P : Program) (σ : SH) (T : TypeId) (m k v : SV) : Option SR := match P.underlying T, m, k with
  | some (.map kt _), .map n, .str l => match P.underlying kt with
    | some .string => (match σ.get n with
      | some (.map es) => match sFindStr l es 0 with
        | some none => some (.val .undef (σ.put n (some (.map (es ++ [(.str l, v)])))))
        | some (some (j, _)) => some (.val .undef (σ.put n (some (.map (es.set j (.str l, v))))))
        | none => none
      | _ => none)
    | _ => none
  | _, _, _ => none
theorem sMapUpdStr_ok (h : Rel P w0 env σ w) {T : TypeId} {s t u : SV} {r : SR} (hs : sMapUpdStr P σ T s t u = some r) {x y z : Operand} {ρ : Operand → Value} (h1 : den env s = some (ρ x)) (h2 : den env t = some (ρ y)) (h3 : den env u = some (ρ z)) (d : Option Tmp) (ty : TypeId) (pos : String) (af : Array Edge) (g : Option (Nat × Bool)) :
    Outcome P w0 env ((execOp ρ ⟨d, .mapUpdate T x y z, ty, pos, af, g⟩).run P w) r := by
  unfold sMapUpdStr at hs
  split at hs
  · rename_i kt et n l hu
    have h2' := h2
    simp only [den, Option.some.injEq] at h2
    split at hs
    · rename_i hk
      have hck : ∀ em w, (Instr.checkKey em 10000 kt (ρ y)).run P w = .ok () w := fun em w => by rw [← h2]; exact check_str hk _ em w
      split at hs
      · rename_i es hn
        obtain ⟨b, c, he, em⟩ := den_map h1
        obtain ⟨b', c', e1, hb, ents, clock, ks, vs, g1, g2, g3, g4, g5, g6, g7⟩ := h.obj n _ hn
        rw [he] at e1; cases e1
        subst g4; subst g5
        split at hs
        · rename_i hf; cases hs
          have hrun := sFindStr_ok es ents.toList 0 _ hf g2 g3
          simp only at hrun
          have hrun := Go.MapKept.run_findKey (P := P) (w := w) hk hrun
          rw [h2] at hrun
          refine ⟨env, undef, { w with heap := w.heap.setIfInBounds b (.map (ents.push { key := ρ y, val := ρ z, born := clock }) (clock + 1)) }, .inr ⟨by simp [execOp, Instr.mapUpdate, run_underlying hu, em, run_getObj_map g1, hck, hrun, run_setObj_any _ g1], rfl⟩, Env.le_refl _, h.setObj hn he g1 (fun w' hw' => ?_), by simp only [den]⟩
          refine ⟨ents.push { key := ρ y, val := ρ z, born := clock }, clock + 1, ents.toList.map (·.key) ++ [ρ y], ents.toList.map (·.val) ++ [ρ z], hw', ?_, ?_, by simp, by simp, by simp [g6], fun i e hi => ?_⟩
          · rw [List.map_append]
            exact denL_append g2 (denL_mk h2' rfl)
          · rw [List.map_append]
            exact denL_append g3 (denL_mk h3 rfl)
          · rw [Array.getElem?_push] at hi
            split at hi
            · rename_i hie; cases hi; simp [g6, hie]
            · exact g7 i e hi
        · rename_i j q hf; cases hs
          obtain ⟨v, e, hv, hrun, _, hget, hkey⟩ := sFindStr_ok es ents.toList 0 _ hf g2 g3
          rw [Nat.sub_zero] at hget
          have hrun := Go.MapKept.run_findKey (P := P) (w := w) hk hrun
          rw [h2] at hrun hkey
          have hgA : ents[j]? = some e := by simpa using hget
          have hst : (Instr.keyThatStays e.key (ρ y)).run P w = .ok (ρ y) w := by
            rw [hkey, ← h2]
            exact Go.MapKept.run_keyThatStays (d := .string) (k := .string (bytesOf l)) trivial
          have hjlt : j < ents.size := (Array.getElem?_eq_some_iff.1 hgA).1
          refine ⟨env, undef, { w with heap := w.heap.setIfInBounds b (.map (ents.modify j fun e => { e with key := ρ y, val := ρ z }) clock) }, .inr ⟨by simp [execOp, Instr.mapUpdate, run_underlying hu, em, run_getObj_map g1, hck, hrun, hgA, hst, run_setObj_any _ g1], rfl⟩, Env.le_refl _, h.setObj hn he g1 (fun w' hw' => ?_), by simp only [den]⟩
          have hmod : (ents.modify j fun e => { e with key := ρ y, val := ρ z }).toList = ents.toList.set j { e with key := ρ y, val := ρ z } := by
            apply List.ext_getElem?
            intro i
            rw [Array.getElem?_toList, Array.getElem?_modify, List.getElem?_set]
            split
            · rename_i hij; subst hij
              have hej : ents[j] = e := (Array.getElem?_eq_some_iff.1 hgA).2
              simp [hgA, hjlt, hej]
            · simp
          refine ⟨_, clock, (ents.toList.map (·.key)).set j (ρ y), (ents.toList.map (·.val)).set j (ρ z), hw', ?_, ?_, by rw [hmod, List.map_set], by rw [hmod, List.map_set], by rw [g6]; simp, fun i x hi => ?_⟩
          · rw [List.map_set]
            exact denL_set g2 h2'
          · rw [List.map_set]
            exact denL_set g3 h3
          · rw [Array.getElem?_modify] at hi
            split at hi
            · rename_i hij; subst hij
              rw [hgA] at hi
              simp only [Option.map_some, Option.some.injEq] at hi
              subst hi
              exact g7 j e hgA
            · exact g7 i x hi
        · cases hs
      · cases hs
    · cases hs
  · cases hs

/-- A slice as an array. -/
noncomputable def sArr (P : Program) (σ : SH) (T : TypeId) (x : SV) : Option SR := match P.underlying T, x with
  | some (.array k _), .slice n off len _ => if k ≤ len then some (.val (.ptr n off) σ) else none
  | _, _ => none
theorem sArr_ok (h : Rel P w0 env σ w) {T : TypeId} {s : SV} {r : SR} (hs : sArr P σ T s = some r) {x : Operand} {ρ : Operand → Value} (hd : den env s = some (ρ x)) (d : Option Tmp) (ty : TypeId) (pos : String) (af : Array Edge) (g : Option (Nat × Bool)) :
    Outcome P w0 env ((execOp ρ ⟨d, .sliceToArrayPointer T x, ty, pos, af, g⟩).run P w) r := by
  unfold sArr at hs
  split at hs
  · rename_i k e n off len c hu
    split at hs
    · rename_i hk; cases hs
      obtain ⟨b, q, he, hv⟩ := den_slice hd
      have : ¬ len < k := by omega
      exact .same (v := .pointer (some ⟨b, off, none⟩)) (by simp [execOp, Instr.arrayAt, run_underlying hu, hv, this]) h (by simp only [den, he])
    · cases hs
  · cases hs

/-- copy, where all that there is goes in. -/
noncomputable def sCopy (P : Program) (σ : SH) (T T' : TypeId) (s x : SV) : Option (SV × SH) := match P.underlying T with
  | some (.slice e) => match ssize P e with
    | some z => match s, sGift P σ T' z x with
      | .slice n off len _, some (m, news) => match σ.get n with
        | some (.cells l e' ex) => if decide (m ≤ len) && decide (off + (lenR news) ≤ (lenR l)) && (allR oneS news) then
            some (.int .i64 (m : Nat), σ.put n (some (.cells (patch l off news) e' ex))) else none
        | _ => none
      | .nils, some (0, _) => some (.int .i64 (0 : Nat), σ)
      | _, _ => none
    | none => none
  | _ => none
theorem sCopy_ok (ho : env.ones) (h : Rel P w0 env σ w) {T T' ty : TypeId} {s x q : SV} {σ' : SH} (hs : sCopy P σ T T' s x = some (q, σ')) {v u : Value} (hd : den env s = some v) (hx : den env x = some u) :
    ∃ v' w', (Builtin.copy_ #[T, T'] ty #[v, u]).run P w = .ok v' w' ∧ Rel P w0 env σ' w' ∧ den env q = some v' := by
  unfold sCopy at hs
  simp only [lenR_eq, takeR_eq, dropR_eq, appR_eq, allR_eq, mapR_eq] at hs
  split at hs
  · rename_i e ht
    split at hs
    · rename_i z hz
      split at hs
      · rename_i n off len c m news hg
        obtain ⟨D, vn, hD, hdn, hln, gift⟩ := sGift_ok h hg hx
        split at hs
        · rename_i l e' ex hn
          split at hs
          · rename_i hh; cases hs
            simp only [Bool.and_eq_true, decide_eq_true_eq] at hh
            obtain ⟨⟨h1, h2⟩, h3⟩ := hh
            obtain ⟨b, k, he, rfl⟩ := den_slice hd
            obtain ⟨r1, r2⟩ := h.setCells ho hn he h2 h3 hdn
            have hmin : Nat.min m len = m := Nat.min_eq_left h1
            exact ⟨.int .i64 (m : Nat), _, by simp [Builtin.copy_, run_underlying ht, gift.len, hmin, ssize_ok hz, gift.cells, r1, goInt], r2, rfl⟩
          · cases hs
        · cases hs
      · rename_i nw hg; cases hs
        obtain ⟨D, vn, hD, hdn, hln, gift⟩ := sGift_ok h hg hx
        simp only [den, Option.some.injEq] at hd; subst hd
        have hc := gift.cells
        exact ⟨.int .i64 (0 : Nat), w, by simp [Builtin.copy_, run_underlying ht, gift.len, ssize_ok hz, hc, goInt], h, rfl⟩
      · cases hs
    · cases hs
  · cases hs
end Go.Proofs.YthenjjonphoklaaGreatDoor
