/-
  THE EXECUTOR, part M: regions, code, calls: over any sound way to do single operations and calls.
-/
import Derived.Test.YthenjjonphoklaaGreatDoorSymD
import Derived.Scope
set_option linter.unusedVariables false
set_option linter.unusedSimpArgs false
namespace Go.Proofs.YthenjjonphoklaaGreatDoor
open Go Go.RowKit

variable {P : Program} {w0 : Base}

abbrev Outs := List (SV × SH)
abbrev OpF := Row → Oper → SH → Option SR
abbrev CallF := FuncId → List SV → SH → Option Outs
abbrev KS := Row → SH → Option Outs

/-- Each of some ends, together. -/
noncomputable def bindR {α : Type} (k : α → Option Outs) (l : List α) : Option Outs :=
  @List.rec α (fun _ => Option Outs) (some []) (fun a _ ih => match k a with
    | none => none
    | some x => match ih with
      | none => none
      | some y => some (x ++ y)) l
noncomputable def bindK {α : Type} (l : List α) (k : α → Option Outs) : Option Outs :=
  @List.casesOn α (fun _ => Option Outs) l (some []) (fun a r => @List.casesOn α (fun _ => Option Outs) r (k a) (fun _ _ => bindR k l))
theorem bindR_mem {α : Type} {k : α → Option Outs} : ∀ {l : List α} {m : Outs}, bindR k l = some m → ∀ a ∈ l, ∃ x, k a = some x ∧ ∀ b ∈ x, b ∈ m := by
  intro l
  induction l with
  | nil => intro m _ a ha; cases ha
  | cons c r ih =>
    intro m h a ha
    have h : (match k c with
      | none => none
      | some x => match bindR k r with
        | none => none
        | some y => some (x ++ y)) = some m := h
    cases h1 : k c with
    | none => rw [h1] at h; cases h
    | some x =>
      rw [h1] at h
      cases h2 : bindR k r with
      | none => rw [h2] at h; cases h
      | some y =>
        rw [h2] at h; cases h
        rcases List.mem_cons.1 ha with rfl | ha
        · exact ⟨x, h1, fun b hb => List.mem_append_left _ hb⟩
        · obtain ⟨z, hz, hall⟩ := ih h2 a ha
          exact ⟨z, hz, fun b hb => List.mem_append_right _ (hall b hb)⟩
theorem bindK_mem {α : Type} {k : α → Option Outs} {l : List α} {m : Outs} (h : bindK l k = some m) : ∀ a ∈ l, ∃ x, k a = some x ∧ ∀ b ∈ x, b ∈ m := by
  cases l with
  | nil => intro a ha; cases ha
  | cons c r =>
    cases r with
    | nil =>
      intro a ha
      have h : k c = some m := h
      rw [List.mem_singleton] at ha; subst ha
      exact ⟨m, h, fun _ hb => hb⟩
    | cons d r => exact bindR_mem (show bindR k (c :: d :: r) = some m from h)

/-- A frame fits. -/
structure FRel (env : Env) (st : Row) (a : Act) : Prop where
  size : st.n = a.tmps.size
  tmps : ∀ t, den env (st.at t) = some (a.tmps.getD t Go.undef)
  defers : a.defers = []
theorem FRel.ext {env env' : Env} {st : Row} {a : Act} (h : FRel env st a) (he : env.ext env') : FRel env' st a := ⟨h.size, fun t => den_ext he _ _ (h.tmps t), h.defers⟩
theorem FRel.mono {env env' : Env} {st : Row} {a : Act} (h : FRel env st a) (he : env.le env') : FRel env' st a := h.ext he.toext

def OpSound (P : Program) (w0 : Base) (op : OpF) : Prop := ∀ st o σ r env a w, op st o σ = some r → env.ones → Rel P w0 env σ w → FRel env st a → Outcome P w0 env ((execOp a.eval o).run P w) r
/-- What a call comes to. -/
def Comes1 (P : Program) (w0 : Base) (env : Env) (outs : Outs) (e : Ending) (w' : World) : Prop := ∃ o ∈ outs, ∃ env' v, e = .returned v ∧ env.le env' ∧ Rel P w0 env' o.2 w' ∧ den env' o.1 = some v
def CallSound (P : Program) (w0 : Base) (call : CallF) : Prop := ∀ f args σ outs env w vs, call f args σ = some outs → env.ones → Rel P w0 env σ w → denL env args = some vs → Calls P f vs.toArray w (Comes1 P w0 env outs)

noncomputable def putS (st : Row) (d : Option Tmp) (s : SV) : Row := match d with
  | some t => st.set t s
  | none => st
theorem putS_some (st : Row) (t : Tmp) (s : SV) : putS st (some t) s = st.set t s := rfl
theorem putS_ok {env : Env} {st : Row} {a : Act} (h : FRel env st a) {d : Option Tmp} {s : SV} {v : Value} (hd : den env s = some v) : FRel env (putS st d s) (a.put d v) := by
  cases d with
  | none => exact h
  | some t =>
    refine ⟨?_, fun j => ?_, h.defers⟩
    · simp only [putS_some, Act.put, Row.set_n, Array.size_setIfInBounds]; exact h.size
    · simp only [putS_some, Act.put, Array.getD_eq_getD_getElem?]
      have hj := h.tmps j
      rw [Array.getD_eq_getD_getElem?] at hj
      by_cases hjt : j = t
      · subst hjt
        rcases Nat.lt_or_ge j st.n with hl | hl
        · rw [Row.at_set_eq s hl, Array.getElem?_setIfInBounds_self, if_pos (by rw [← h.size]; exact hl)]; exact hd
        · have : a.tmps.size ≤ j := by rw [← h.size]; exact hl
          rw [Row.set_ge s hl, hj, Array.getElem?_setIfInBounds_self, if_neg (by omega), Array.getElem?_eq_none this]
      · rw [Row.at_set_ne s hjt, hj, Array.getElem?_setIfInBounds_ne (Ne.symm hjt)]

/-- Is an operation wanted? -/
noncomputable def wantS (ops : Array Oper) (o : Oper) (st : Row) : Option Bool := match o.guard with
  | none => some true
  | some (g, want) => match (ops[g]?).bind (·.dst) with
    | none => some false
    | some t => match st.at t with
      | .bool b => some (match b, want with | true, true => true | false, false => true | _, _ => false)
      | .undef => some false
      | _ => none
theorem wantS_ok {env : Env} {ops : Array Oper} {o : Oper} {st : Row} {a : Act} {b : Bool} (hs : wantS ops o st = some b) (h : FRel env st a) : Region.wanted o (yielded ops a.tmps) = b := by
  unfold wantS at hs
  unfold Region.wanted
  split at hs
  · rename_i hg; cases hs; rw [hg]
  · rename_i g want hg
    rw [hg]
    simp only
    unfold yielded
    split at hs
    · rename_i hd; cases hs; rw [hd]; rfl
    · rename_i t hd
      rw [hd]
      simp only [Option.bind_some]
      have hv := h.tmps t
      rw [Array.getD_eq_getD_getElem?] at hv
      split at hs
      · rename_i c hc; cases hs
        rw [hc] at hv
        simp only [den, Option.some.injEq] at hv
        cases ha : a.tmps[t]? with
        | none => rw [ha] at hv; exact absurd (show Value.bool c = Go.undef from hv) (by simp [Go.undef])
        | some x =>
          rw [ha] at hv
          have hv : Value.bool c = x := hv
          subst hv
          cases c <;> cases want <;> rfl
      · rename_i hc; cases hs
        rw [hc] at hv
        simp only [den, Option.some.injEq] at hv
        cases ha : a.tmps[t]? with
        | none => rfl
        | some x =>
          rw [ha] at hv
          have hv : Go.undef = x := hv
          subst hv
          rfl
      · cases hs

/-- A region that does not draw. -/
noncomputable def xOpsK (op : OpF) (call : CallF) (ops : Array Oper) (l : List Oper) : Row → SH → KS → Option Outs :=
  @List.rec Oper (fun _ => Row → SH → KS → Option Outs) (fun st σ k => k st σ)
    (fun o _ ih st σ k => match wantS ops o st with
      | none => none
      | some false => ih (putS st o.dst .undef) σ k
      | some true => match op st o σ with
        | none => none
        | some (.val s σ') => ih (putS st o.dst s) σ' k
        | some (.enter f args σ') => match call f args σ' with
          | none => none
          | some outs => bindK outs fun x => ih (putS st o.dst x.1) x.2 k) l
theorem xOpsK_cons (op : OpF) (call : CallF) (ops : Array Oper) (o : Oper) (rest : List Oper) (st : Row) (σ : SH) (k : KS) : xOpsK op call ops (o :: rest) st σ k = (match wantS ops o st with
      | none => none
      | some false => xOpsK op call ops rest (putS st o.dst .undef) σ k
      | some true => match op st o σ with
        | none => none
        | some (.val s σ') => xOpsK op call ops rest (putS st o.dst s) σ' k
        | some (.enter f args σ') => match call f args σ' with
          | none => none
          | some outs => bindK outs fun x => xOpsK op call ops rest (putS st o.dst x.1) x.2 k) := rfl
theorem xOpsK_ok {op : OpF} {call : CallF} (hop : OpSound P w0 op) (hcall : CallSound P w0 call) {ops : Array Oper} : ∀ (l : List Oper) (st : Row) (σ : SH) (k : KS) (outs : Outs), xOpsK op call ops l st σ k = some outs →
    ∀ (env : Env) (a : Act) (w : World), env.ones → Rel P w0 env σ w → FRel env st a → ∀ Q : Exit → Act → World → Prop,
      (∀ st' σ' outs', k st' σ' = some outs' → (∀ x ∈ outs', x ∈ outs) → ∀ env' a' w', env.le env' → Rel P w0 env' σ' w' → FRel env' st' a' → Q .normal a' w') → wpList P ops Q l a w := by
  intro l
  induction l with
  | nil =>
    intro st σ k outs h env a w ho hr hf Q hq
    exact hq st σ outs h (fun _ hx => hx) env a w (Env.le_refl _) hr hf
  | cons o rest ih =>
    intro st σ k outs h env a w ho hr hf Q hq
    rw [xOpsK_cons] at h
    unfold wpList
    split at h
    · cases h
    · rename_i hw
      rw [wantS_ok hw hf]
      simp only [Bool.false_eq_true, if_false]
      exact ih _ _ _ _ h env _ w ho hr (putS_ok hf (by simp only [den])) Q hq
    · rename_i hw
      rw [wantS_ok hw hf]
      simp only [if_true]
      left
      split at h
      · cases h
      · rename_i s σ' hs
        obtain ⟨env', v, w', hrun, hle, hrel, hd⟩ := hop st o σ _ env a w hs ho hr hf
        have go : ∀ v', den env' s = some v' → wpList P ops Q rest (a.put o.dst v') w' := fun v' hv' =>
          ih _ _ _ _ h env' _ w' (ho.le hle) hrel (putS_ok (hf.mono hle) hv') Q (fun st' σ' outs' hx hsub env'' a' w'' hle' => hq st' σ' outs' hx hsub env'' a' w'' (hle.trans' hle'))
        rcases hrun with hrun | ⟨hrun, rfl⟩
        · simp only [Oper.wp, hrun, Oper.upon]; exact go v hd
        · simp only [Oper.wp, hrun, Oper.upon]; exact go _ hd
      · rename_i f args σ' hs
        obtain ⟨vs, w', hrun, hrel, hd⟩ := hop st o σ _ env a w hs ho hr hf
        split at h
        · cases h
        · rename_i couts hc
          simp only [Oper.wp, hrun, Oper.upon]
          refine Calls.mono (hcall f args σ' couts env w' vs hc ho hrel hd) ?_
          rintro e w'' ⟨x, hx, env', v, rfl, hle, hrel', hdv⟩
          obtain ⟨ys, hys, hsub⟩ := bindK_mem h x hx
          exact ih _ _ _ _ hys env' _ w'' (ho.le hle) hrel' (putS_ok (hf.mono hle) hdv) Q (fun st' σ' outs' hk hsub' env'' a' w3 hle' => hq st' σ' outs' hk (fun y hy => hsub y (hsub' y hy)) env'' a' w3 (hle.trans' hle'))
end Go.Proofs.YthenjjonphoklaaGreatDoor
