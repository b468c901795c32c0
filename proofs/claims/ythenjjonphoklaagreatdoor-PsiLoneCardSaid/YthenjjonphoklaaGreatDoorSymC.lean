/-
  THE EXECUTOR, part C: constants, cells, loads, stores.
-/
import Derived.Test.YthenjjonphoklaaGreatDoorSymB
set_option linter.unusedVariables false
set_option linter.unusedSimpArgs false
namespace Go.Proofs.YthenjjonphoklaaGreatDoor
open Go Go.RowKit

variable {P : Program} {w0 : Base} {env : Env} {σ : SH} {w : World}

/-- A written-out value of one cell. -/
def ofCell : Value → Option SV
  | .int k n => some (.int k n)
  | .bool b => some (.bool b)
  | .string s => some (.str (s.data.toList.map UInt8.toNat))
  | .pointer none => some .nilp
  | .slice none 0 0 => some .nils
  | .map none => some .nilm
  | .nilFunc => some .nilf
  | .nilIface => some .nili
  | _ => none
theorem bytesOf_toNat (s : ByteArray) : bytesOf (s.data.toList.map UInt8.toNat) = s := by
  unfold bytesOf
  rw [List.map_map]
  have : (UInt8.ofNat ∘ UInt8.toNat) = id := by funext x; simp
  rw [this, List.map_id]
theorem ofCell_den {v : Value} {s : SV} (h : ofCell v = some s) : den env s = some v := by
  unfold ofCell at h
  split at h <;> first | (cases h; done) | (cases h; simp only [den, bytesOf_toNat])
def ofCells : List Value → Option (List SV)
  | [] => some []
  | v :: r => match ofCell v, ofCells r with
    | some a, some b => some (a :: b)
    | _, _ => none
theorem ofCells_den : ∀ {vs : List Value} {l : List SV}, ofCells vs = some l → denL env l = some vs := by
  intro vs
  induction vs with
  | nil => intro l h; simp only [ofCells] at h; cases h; rfl
  | cons v r ih =>
    intro l h
    simp only [ofCells] at h
    cases h1 : ofCell v with
    | none => rw [h1] at h; cases h
    | some a =>
      cases h2 : ofCells r with
      | none => rw [h1, h2] at h; cases h
      | some b => rw [h1, h2] at h; cases h; exact denL_mk (ofCell_den h1) (ih h2)
/-- A written-out value. -/
def ofV : Value → Option SV
  | .agg cs => match ofCells cs.toList with
    | some l => some (.agg l)
    | none => none
  | .tuple cs => match cs.toList with
    | [] => some .undef
    | _ :: _ => none
  | v => ofCell v
theorem ofV_den {v : Value} {s : SV} (h : ofV v = some s) : den env s = some v := by
  unfold ofV at h
  split at h
  · rename_i cs
    cases h1 : ofCells cs.toList with
    | none => rw [h1] at h; cases h
    | some l => rw [h1] at h; cases h; simp only [den, ofCells_den h1, Array.toArray_toList]
  · rename_i cs
    split at h
    · rename_i hc; cases h
      have : cs = #[] := by cases cs; simp_all
      subst this; simp only [den]; rfl
    · cases h
  · exact ofCell_den h

/-- The cells of a symbolic value. -/
def cellsS : SV → List SV
  | .agg l => l
  | s => [s]
def oneS : SV → Bool
  | .agg _ | .tuple _ | .undef => false
  | _ => true
/-- The values that nobody looks into are of one cell each. -/
def Env.ones (e : Env) : Prop := ∀ i, (e.given i).oneCell' = true
theorem numOf'_one {x v : Value} {fs : List (Nat × Nat)} {u : Bool} (h : numOf' x fs u = some v) : v.oneCell' = true := by
  unfold numOf' at h
  (repeat' split at h) <;> first | (cases h; done) | (cases h; rfl)
theorem cellsS_den (ho : env.ones) {s : SV} {v : Value} (h : den env s = some v) : denL env (cellsS s) = some v.cells.toList := by
  have one : v.oneCell' = true → denL env [s] = some v.cells.toList := fun h1 => by
    rw [denL_mk h rfl]; cases v <;> simp_all [Value.cells, Value.oneCell']
  cases s <;> simp only [den] at h <;> simp only [cellsS]
  case agg l =>
    cases h1 : denL env l with
    | none => rw [h1] at h; cases h
    | some vs => rw [h1] at h; cases h; rfl
  case tuple l =>
    cases h1 : denL env l with
    | none => rw [h1] at h; cases h
    | some vs =>
      rw [h1] at h; cases h
      exact denL_mk (by simp only [den, h1]) rfl
  case undef => cases h; exact denL_mk (by simp only [den]) rfl
  case opq i => cases h; exact one (ho i)
  case num i fs u => exact one (numOf'_one h)
  case iface t x =>
    cases h1 : den env x with
    | none => rw [h1] at h; cases h
    | some y => rw [h1] at h; cases h; exact one rfl
  case fn f a b =>
    cases h1 : denL env a with
    | none => rw [h1] at h; cases h
    | some y =>
      cases h2 : denL env b with
      | none => rw [h1, h2] at h; cases h
      | some z => rw [h1, h2] at h; cases h; exact one rfl
  all_goals first
    | (cases h; exact one rfl)
    | (split at h <;> first | (cases h; done) | (cases h; exact one rfl))
theorem oneS_den (ho : env.ones) {s : SV} {v : Value} (h1 : oneS s = true) (h : den env s = some v) : v.oneCell' = true := by
  cases s <;> simp only [oneS] at h1 <;> simp only [den] at h <;> first
    | (cases h1; done)
    | (exact numOf'_one h)
    | (cases h; first | rfl | exact ho _)
    | (split at h <;> first | (cases h; done) | (cases h; rfl))
theorem allOne (ho : env.ones) : ∀ {l : List SV} {vs : List Value}, l.all oneS = true → denL env l = some vs → ∀ v ∈ vs, v.oneCell' = true := by
  intro l
  induction l with
  | nil => intro vs _ h v hv; simp only [denL] at h; cases h; cases hv
  | cons x r ih =>
    intro vs h1 h v hv
    obtain ⟨a, b, e1, e2, rfl⟩ := denL_cons h
    simp only [List.all_cons, Bool.and_eq_true] at h1
    rcases List.mem_cons.1 hv with rfl | hv
    · exact oneS_den ho h1.1 e1
    · exact ih h1.2 e2 v hv

/-- What a known cell holds. -/
theorem Rel.cell (h : Rel P w0 env σ w) {n b c i : Nat} {l : List SV} {e : TypeId} {ex : Bool} {s : SV} (hn : σ.get n = some (.cells l e ex)) (he : env.blocks n = some (b, c)) (hi : l[i]? = some s) :
    ∃ v, den env s = some v ∧ w.cell? ⟨b, i, none⟩ = some v ∧ w.frozen? ⟨b, i, none⟩ = false := by
  obtain ⟨b', c', h1, h2, cur, t, fr, vs, g1, g2, g3, g4, _⟩ := h.obj n _ hn
  rw [he] at h1; cases h1
  obtain ⟨v, hv, hd⟩ := denL_get g3 hi
  have hlt : i < l.length := (List.getElem?_eq_some_iff.1 hi).1
  have hc : cur[i]? = some v := by
    rw [← g4, List.getElem?_take, if_pos hlt] at hv
    simpa using hv
  have hsz : i < cur.size := (Array.getElem?_eq_some_iff.1 hc).1
  refine ⟨v, hd, ?_, ?_⟩
  · simp [World.cell?, g1, hc]
  · simp only [World.frozen?, g1]; exact thawed_at g2 i hsz

theorem add_none (b o i : Nat) : (⟨b, o, none⟩ : Addr).add i = ⟨b, o + i, none⟩ := by unfold Addr.add; split <;> simp_all

theorem Rel.loadCells (h : Rel P w0 env σ w) {n b c off k : Nat} {l : List SV} {e : TypeId} {ex : Bool} (hn : σ.get n = some (.cells l e ex)) (he : env.blocks n = some (b, c)) (hk : off + k ≤ l.length) :
    ∃ vs, denL env ((l.drop off).take k) = some vs ∧ vs.length = k ∧ (loadCells ⟨b, off, none⟩ k).run P w = .ok vs.toArray w := by
  obtain ⟨b', c', h1, h2, cur, t, fr, vs, g1, g2, g3, g4, _⟩ := h.obj n _ hn
  have hd := denL_take k (denL_drop off g3)
  have hl : ((vs.drop off).take k).length = k := by
    rw [List.length_take, List.length_drop, denL_length g3]; omega
  refine ⟨_, hd, hl, ?_⟩
  have := run_loadCells_list (P := P) w ⟨b, off, none⟩ ((vs.drop off).take k) (fun j v hv => by
    rw [add_none]
    have hj : j < k := by have := (List.getElem?_eq_some_iff.1 hv).1; omega
    have hlt : off + j < l.length := by omega
    obtain ⟨v', d1, d2, _⟩ := h.cell hn he (List.getElem?_eq_getElem hlt)
    rw [d2]
    obtain ⟨v'', e1, e2⟩ := denL_get hd (i := j) (s := l[off + j]) (by rw [List.getElem?_take, if_pos hj, List.getElem?_drop]; exact List.getElem?_eq_getElem hlt)
    rw [e2] at d1; cases d1
    rw [hv] at e1; exact e1.symm)
  rwa [hl] at this

def isAggD : TypeDesc → Bool
  | .struct _ | .array _ _ => true
  | _ => false
/-- A load. -/
noncomputable def sload (P : Program) (σ : SH) (T : TypeId) (n off : Nat) : Option SV :=
  match σ.get n with
  | some (.cells l _ _) => match P.underlying T with
    | some d => if isAggD d then (match P.info? T with
        | some i => if off + i.size ≤ l.length then some (.agg ((l.drop off).take i.size)) else none
        | none => none)
      else lget l off
    | none => none
  | _ => none
theorem run_loadVar_agg {T : TypeId} {i : TypeInfo} {d : TypeDesc} {a : Addr} {vs : List Value} (hu : P.underlying T = some d) (hd : isAggD d = true) (hi : P.info? T = some i)
    (hl : (Go.loadCells a i.size).run P w = .ok vs.toArray w) : (loadVar T a).run P w = .ok (.agg vs.toArray) w := by
  cases d <;> simp only [isAggD, Bool.false_eq_true] at hd <;> simp [loadVar, isAgg, underlying, sizeOf, typeInfo, hu, hi, hl]
theorem run_loadVar_one {T : TypeId} {d : TypeDesc} {a : Addr} {v : Value} (hu : P.underlying T = some d) (hd : isAggD d = false) (hc : w.cell? a = some v) : (loadVar T a).run P w = .ok v w := by
  cases d <;> simp only [isAggD, Bool.true_eq_false] at hd <;> simp [loadVar, isAgg, underlying, hu, hc]
theorem sload_ok (h : Rel P w0 env σ w) {T n off b c : Nat} {s : SV} (hs : sload P σ T n off = some s) (he : env.blocks n = some (b, c)) :
    ∃ v, den env s = some v ∧ (loadVar T ⟨b, off, none⟩).run P w = .ok v w := by
  unfold sload at hs
  split at hs
  · rename_i l e ex hn
    split at hs
    · rename_i d hu
      split at hs
      · rename_i hd
        split at hs
        · rename_i i hi
          split at hs
          · rename_i hk; cases hs
            obtain ⟨vs, d1, d2, d3⟩ := h.loadCells hn he hk
            exact ⟨.agg vs.toArray, by simp only [den, d1], run_loadVar_agg hu hd hi d3⟩
          · cases hs
        · cases hs
      · rename_i hd
        rw [lget_eq] at hs
        obtain ⟨v, d1, d2, d3⟩ := h.cell hn he hs
        exact ⟨v, d1, run_loadVar_one hu (by simpa using hd) d2⟩
    · cases hs
  · cases hs

/-- The cells behind a store. -/
noncomputable def patch (l : List SV) (off : Nat) (cs : List SV) : List SV := appR (takeR l off) (appR cs (dropR l (Nat.add off (lenR cs))))
theorem patch_def (l : List SV) (off : Nat) (cs : List SV) : patch l off cs = l.take off ++ cs ++ l.drop (off + cs.length) := by
  unfold patch; rw [appR_eq, appR_eq, takeR_eq, dropR_eq, lenR_eq, List.append_assoc]; rfl
theorem patch_length {l cs : List SV} {off : Nat} (h : off + cs.length ≤ l.length) : (patch l off cs).length = l.length := by
  rw [patch_def]; rw [List.length_append, List.length_append, List.length_take, List.length_drop]; omega
/-- A store. -/
noncomputable def sstore (P : Program) (σ : SH) (T : TypeId) (n off : Nat) (s : SV) : Option SH :=
  match σ.get n, P.info? T with
  | some (.cells l e ex), some i => match cellsS s with
    | [c] => @Bool.rec (fun _ => Option SH) none (match lget l off with
      | some _ => @Bool.rec (fun _ => Option SH) none (some (σ.put n (some (.cells (lset l off c) e ex)))) (oneS c)
      | none => none) (Nat.beq i.size 1)
    | cs => if cs.length = i.size && decide (off + cs.length ≤ l.length) && cs.all oneS then some (σ.put n (some (.cells (patch l off cs) e ex))) else none
  | _, _ => none
theorem patch_one {l : List SV} {off : Nat} {c : SV} (h : off < l.length) : patch l off [c] = lset l off c := by
  rw [lset_eq]
  rw [patch_def]
  rw [List.set_eq_take_append_cons_drop, if_pos h]
  simp

def patchV (l : List Value) (off : Nat) (cs : List Value) : List Value := l.take off ++ cs ++ l.drop (off + cs.length)
theorem patchV_take {l cs : List Value} {off n : Nat} (h1 : off + cs.length ≤ n) (h2 : n ≤ l.length) : (patchV l off cs).take n = patchV (l.take n) off cs := by
  unfold patchV
  have e1 : (l.take off ++ cs).length = off + cs.length := by rw [List.length_append, List.length_take]; omega
  rw [List.take_append, e1, List.take_of_length_le (by omega), List.take_take, Nat.min_eq_left (by omega), List.drop_take]
theorem patchV_step {l r : List Value} {v : Value} {off : Nat} (h : off < l.length) : patchV (l.set off v) (off + 1) r = patchV l off (v :: r) := by
  unfold patchV
  have e1 : (l.set off v).take (off + 1) = l.take off ++ [v] := by
    rw [List.take_add_one, List.take_set_of_le (Nat.le_refl _)]
    simp [h]
  have e2 : (l.set off v).drop (off + 1 + r.length) = l.drop (off + (r.length + 1)) := by
    rw [List.drop_set_of_lt (by omega)]; congr 1; omega
  rw [e1, e2]
  simp
theorem patch_den {l cs : List SV} {vs us : List Value} {off : Nat} (h1 : denL env l = some vs) (h2 : denL env cs = some us) : denL env (patch l off cs) = some (patchV vs off us) := by
  rw [patch_def]; unfold patchV
  rw [denL_length h2]
  exact denL_append (denL_append (denL_take off h1) h2) (denL_drop _ h1)

theorem setCells_heap (b : Nat) : ∀ (vs : List Value) (o : Nat) (w : World) (cur : Array Value) (t : TypeId) (fr : Nat × Nat), w.heap[b]? = some (.cells cur t fr) → o + vs.length ≤ cur.size →
    ∃ cur' : Array Value, (w.setCells b o vs).heap[b]? = some (.cells cur' t fr) ∧ cur'.toList = patchV cur.toList o vs ∧ (w.setCells b o vs).heap.size = w.heap.size ∧ (∀ k, k ≠ b → (w.setCells b o vs).heap[k]? = w.heap[k]?) ∧
      (w.setCells b o vs).os = w.os ∧ (w.setCells b o vs).tape = w.tape ∧ (w.setCells b o vs).output = w.output := by
  intro vs
  induction vs with
  | nil =>
    intro o w cur t fr h hl
    refine ⟨cur, h, ?_, rfl, fun _ _ => rfl, rfl, rfl, rfl⟩
    unfold patchV; simp
  | cons v r ih =>
    intro o w cur t fr h hl
    simp only [List.length_cons] at hl
    have hb : b < w.heap.size := (Array.getElem?_eq_some_iff.1 h).1
    have h1 : (w.setCell ⟨b, o, none⟩ v).heap[b]? = some (.cells (cur.setIfInBounds o v) t fr) := by
      simp only [World.setCell, Array.getElem?_modify, if_true, h, Option.map_some]
      rfl
    obtain ⟨cur', g1, g2, g3, g4, g5, g6, g7⟩ := ih (o + 1) (w.setCell ⟨b, o, none⟩ v) _ t fr h1 (by rw [Array.size_setIfInBounds]; omega)
    refine ⟨cur', g1, ?_, g3.trans (by simp [World.setCell]), fun k hk => (g4 k hk).trans ?_, g5, g6, g7⟩
    · rw [g2, Array.toList_setIfInBounds, patchV_step (by simp; omega)]
    · simp only [World.setCell]
      rw [Array.getElem?_modify, if_neg (Ne.symm hk)]

theorem sstore_ok (ho : env.ones) (h : Rel P w0 env σ w) {T n off b c : Nat} {s : SV} {v : Value} {σ' : SH} (hs : sstore P σ T n off s = some σ') (he : env.blocks n = some (b, c)) (hv : den env s = some v) :
    ∃ w', (storeVar T ⟨b, off, none⟩ v).run P w = .ok () w' ∧ Rel P w0 env σ' w' := by
  unfold sstore at hs
  split at hs
  · rename_i l e ex i hn hi
    have key : (cellsS s).length = i.size ∧ off + (cellsS s).length ≤ l.length ∧ (cellsS s).all oneS = true ∧ σ' = σ.put n (some (.cells (patch l off (cellsS s)) e ex)) := by
      split at hs
      · rename_i c hc
        cases hb : Nat.beq i.size 1 with
        | false => rw [hb] at hs; exact absurd (show (none : Option SH) = some σ' from hs) (by simp)
        | true =>
          rw [hb] at hs
          have hs : (match lget l off with
            | some _ => @Bool.rec (fun _ => Option SH) none (some (σ.put n (some (.cells (lset l off c) e ex)))) (oneS c)
            | none => none) = some σ' := hs
          rw [lget_eq] at hs
          split at hs
          · rename_i x hx
            have hlt : off < l.length := (List.getElem?_eq_some_iff.1 hx).1
            cases ho1 : oneS c with
            | false => rw [ho1] at hs; exact absurd (show (none : Option SH) = some σ' from hs) (by simp)
            | true =>
              rw [ho1] at hs
              have hs : some (σ.put n (some (.cells (lset l off c) e ex))) = some σ' := hs
              cases hs
              have := Nat.eq_of_beq_eq_true hb
              rw [hc, patch_one hlt]
              exact ⟨by simp [this], by simp; omega, by simp [ho1], rfl⟩
          · cases hs
      · split at hs
        · rename_i hk; cases hs
          simp only [Bool.and_eq_true, beq_iff_eq, decide_eq_true_eq] at hk
          exact ⟨hk.1.1, hk.1.2, hk.2, rfl⟩
        · cases hs
    obtain ⟨k1, k2, k3, rfl⟩ := key
    ·
      have hcs := cellsS_den ho hv
      have hlen := denL_length hcs
      have hone := allOne ho k3 hcs
      obtain ⟨b', c', h1, h2, cur, t, fr, vs, g1, g2, g3, g4, g5, g6⟩ := h.obj n _ hn
      rw [he] at h1; cases h1
      have hsz : l.length ≤ cur.size := by
        have := congrArg List.length g4
        rw [List.length_take, denL_length g3] at this
        simp at this; omega
      have hrun := run_storeCells_cells (P := P) b off v.cells.toList 0 w (fun j hj => by
          rw [Nat.add_zero]
          have hj' : j < v.cells.toList.length := hj
          obtain ⟨x, _, hx, _⟩ := h.cell hn he (List.getElem?_eq_getElem (show off + j < l.length by omega))
          rw [hx]; rfl) (fun j hj => by
          rw [Nat.add_zero]
          have hj' : j < v.cells.toList.length := hj
          obtain ⟨x, _, _, hx⟩ := h.cell hn he (List.getElem?_eq_getElem (show off + j < l.length by omega))
          exact hx) hone
      rw [Nat.add_zero] at hrun
      obtain ⟨cur', q1, q2, q3, q4, q5, q6, q7⟩ := setCells_heap b v.cells.toList off w cur t fr g1 (by omega)
      have hsize : cur'.size = cur.size := by
        have := congrArg List.length q2
        have e0 : v.cells.toList.length = v.cells.size := Array.length_toList
        unfold patchV at this
        simp only [Array.length_toList, List.length_append, List.length_take, List.length_drop] at this
        omega
      refine ⟨_, ?_, h.put hn he q5 q6 q7 (by omega) (fun k _ hk => q4 k hk) (fun o' ho' => ?_)⟩
      · have hsz' : v.cells.size = i.size := by rw [← k1, ← hlen]; rfl
        simp only [storeVar, sizeOf, typeInfo, Sem.run_bind]
        simp [hi, hsz', hrun]
      · cases ho'
        refine ⟨cur', t, fr, patchV vs off v.cells.toList, q1, by rw [hsize]; exact g2, patch_den g3 hcs, ?_, fun hx => ?_, fun hx => ?_⟩
        · rw [patch_length k2, q2, patchV_take (by omega) (by simpa using hsz), g4]
        · exact ⟨by rw [hsize, patch_length k2]; exact (g5 hx).1, (g5 hx).2⟩
        · rw [hsize]; exact g6 hx
  · cases hs
end Go.Proofs.YthenjjonphoklaaGreatDoor
