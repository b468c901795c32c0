/-
  THE EXECUTOR, part N: code and calls.
-/
import Derived.Test.YthenjjonphoklaaGreatDoorSymM
set_option linter.unusedVariables false
set_option linter.unusedSimpArgs false
namespace Go.Proofs.YthenjjonphoklaaGreatDoor
open Go Go.RowKit

variable {P : Program} {w0 : Base}

inductive SX where
  | normal
  | exit (id : Nat)
  | ret
def SX.to : SX → Exit
  | .normal => .normal
  | .exit id => .exit id
  | .ret => .ret

abbrev KX := SX → KS
abbrev BodyF := Row → SH → KX → Option Outs
abbrev RegF := Array Oper → Row → SH → KS → Option Outs
def RegSound (P : Program) (w0 : Base) (reg : RegF) : Prop := ∀ ops st σ k outs, reg ops st σ k = some outs → ∀ env a w, env.ones → Rel P w0 env σ w → FRel env st a → ∀ (id : Nat) (Q : Exit → Act → World → Prop),
  (∀ st' σ' outs', k st' σ' = some outs' → (∀ x ∈ outs', x ∈ outs) → ∀ env' a' w', env.le env' → Rel P w0 env' σ' w' → FRel env' st' a' → Q .normal a' w') → (Code.region id ops true).wp P Q a w

/-- A loop, rolled out. -/
noncomputable def xLoopK (body : BodyF) (n : Nat) : BodyF :=
  @Nat.rec (fun _ => BodyF) (fun _ _ _ => none) (fun _ ih st σ k => body st σ (fun x st' σ' => match x with
    | .normal => ih st' σ' k
    | .exit id => k (.exit id) st' σ'
    | .ret => k .ret st' σ')) n
theorem xLoopK_succ (body : BodyF) (n : Nat) (st : Row) (σ : SH) (k : KX) : xLoopK body (n + 1) st σ k = body st σ (fun x st' σ' => match x with
    | .normal => xLoopK body n st' σ' k
    | .exit id => k (.exit id) st' σ'
    | .ret => k .ret st' σ') := rfl
noncomputable def inBlk (id : Nat) (k : KX) : KX := fun x st σ => match x with
  | .normal => k .normal st σ
  | .exit id' => @Bool.rec (fun _ => Option Outs) (k (.exit id') st σ) (k .normal st σ) (Nat.beq id' id)
  | .ret => k .ret st σ

noncomputable def xCodeK (op : OpF) (call : CallF) (reg : RegF) (c : Code) : BodyF :=
  @Code.rec (fun _ => BodyF)
    (fun st σ k => k .normal st σ)
    (fun _ ops draw => @Bool.rec (fun _ => BodyF) (fun st σ k => xOpsK op call ops ops.toList st σ (fun st' σ' => k .normal st' σ')) (fun st σ k => reg ops st σ (fun st' σ' => k .normal st' σ')) draw)
    (fun _ _ ihx ihy st σ k => ihx st σ (fun x st' σ' => match x with
      | .normal => ihy st' σ' k
      | .exit id => k (.exit id) st' σ'
      | .ret => k .ret st' σ'))
    (fun c _ _ ihx ihy st σ k => match evalS st c with
      | some (.bool b) => @Bool.rec (fun _ => Option Outs) (ihy st σ k) (ihx st σ k) b
      | _ => none)
    (fun id _ ih st σ k => ih st σ (inBlk id k))
    (fun _ ih => xLoopK ih 1000000)
    (fun _ _ _ _ _ _ _ _ _ => none)
    (fun id st σ k => k (.exit id) st σ)
    (fun _ ih => ih)
    (fun _ st σ k => k .normal st σ)
    (fun _ _ _ _ => none)
    (fun st σ k => k .ret st σ)
    (fun _ _ _ _ => none) c

theorem wp_loop_count {c : Code} {Q : Exit → Act → World → Prop} (J : Nat → Act → World → Prop) (round : ∀ n a w, J n a w → c.wp P (Exit.then (fun a' w' => ∃ m, m < n ∧ J m a' w') Q) a w) :
    ∀ n a w, J n a w → (Code.loop c).wp P Q a w := by
  intro n a w h0 b k cs
  have key : ∀ n a w, J n a w → ∃ e a' w', Q e a' w' ∧ Arrives P (lone (b.at a (.code c :: .inLoop c :: k)) cs w) b k cs e a' w' := by
    intro n
    induction n using Nat.strongRecOn with
    | _ n ih =>
      intro a w hJ
      obtain ⟨e, a₁, w₁, hq, harr⟩ := round n a w hJ b (.inLoop c :: k) cs
      cases e with
      | normal =>
        obtain ⟨m, hlt, hJ₁⟩ := hq
        obtain ⟨e₂, a₂, w₂, hq₂, harr₂⟩ := ih m hlt a₁ w₁ hJ₁
        exact ⟨e₂, a₂, w₂, hq₂, .of_steps (Steps.trans harr (.one step_inLoop)) harr₂⟩
      | exit id => exact ⟨_, a₁, w₁, hq, .pass (x := .inLoop c) rfl (fun _ _ => .inl (by simp)) harr⟩
      | goto l => exact ⟨_, a₁, w₁, hq, .pass (x := .inLoop c) rfl (fun _ _ => .inl (by simp)) harr⟩
      | ret => exact ⟨_, a₁, w₁, hq, .pass (x := .inLoop c) rfl (fun _ _ => .inl (by simp)) harr⟩
      | panic ch => exact ⟨_, a₁, w₁, hq, .pass (x := .inLoop c) rfl (fun _ _ => .inl (by simp)) harr⟩
      | outgrown => exact ⟨_, a₁, w₁, hq, .pass (x := .inLoop c) rfl (fun _ _ => .inl (by simp)) harr⟩
  obtain ⟨e, a', w', hq, harr⟩ := key n a w h0
  exact ⟨e, a', w', hq, .of_steps (.one step_loop) harr⟩

/-- What a piece of code comes to. -/
def CodeOk (P : Program) (w0 : Base) (c : Code) (body : BodyF) : Prop := ∀ st σ k outs, body st σ k = some outs → ∀ env a w, env.ones → Rel P w0 env σ w → FRel env st a → ∀ Q : Exit → Act → World → Prop,
  (∀ x st' σ' outs', k x st' σ' = some outs' → (∀ y ∈ outs', y ∈ outs) → ∀ env' a' w', env.le env' → Rel P w0 env' σ' w' → FRel env' st' a' → Q x.to a' w') → c.wp P Q a w

theorem xLoopK_ok {c : Code} {body : BodyF} (hb : CodeOk P w0 c body) (n : Nat) : CodeOk P w0 (.loop c) (xLoopK body n) := by
  intro st σ k outs h env a w ho hr hf Q hq
  refine wp_loop_count (P := P) (fun m a w => ∃ st σ env' outs', xLoopK body m st σ k = some outs' ∧ env.le env' ∧ Rel P w0 env' σ w ∧ FRel env' st a ∧ ∀ o ∈ outs', o ∈ outs) ?_ n a w ⟨st, σ, env, outs, h, Env.le_refl _, hr, hf, fun _ ho => ho⟩
  rintro m a w ⟨st, σ, env', outs', h, hle, hr, hf, hsub⟩
  cases m with
  | zero => exact absurd (show (none : Option Outs) = some outs' from h) (by simp)
  | succ m =>
    rw [xLoopK_succ] at h
    refine hb st σ _ outs' h env' a w (ho.le hle) hr hf _ ?_
    intro x st' σ' outs'' hk hsub' env'' a' w' hle' hr' hf'
    cases x with
    | normal => exact ⟨m, Nat.lt_succ_self m, st', σ', env'', outs'', hk, hle.trans' hle', hr', hf', fun z hz => hsub z (hsub' z hz)⟩
    | exit id => exact hq (.exit id) st' σ' outs'' hk (fun z hz => hsub z (hsub' z hz)) env'' a' w' (hle.trans' hle') hr' hf'
    | ret => exact hq .ret st' σ' outs'' hk (fun z hz => hsub z (hsub' z hz)) env'' a' w' (hle.trans' hle') hr' hf'

theorem xCodeK_ok {op : OpF} {call : CallF} {reg : RegF} (hop : OpSound P w0 op) (hcall : CallSound P w0 call) (hreg : RegSound P w0 reg) : ∀ (c : Code), CodeOk P w0 c (xCodeK op call reg c) := by
  have same : ∀ {outs : Outs}, ∀ y ∈ outs, y ∈ outs := fun _ h => h
  intro c
  induction c with
  | skip => intro st σ k outs h env a w ho hr hf Q hq; exact wp_skip (hq .normal st σ outs h same env a w (Env.le_refl _) hr hf)
  | label l => intro st σ k outs h env a w ho hr hf Q hq; exact wp_label (hq .normal st σ outs h same env a w (Env.le_refl _) hr hf)
  | ret => intro st σ k outs h env a w ho hr hf Q hq; exact wp_ret (hq .ret st σ outs h same env a w (Env.le_refl _) hr hf)
  | exit id => intro st σ k outs h env a w ho hr hf Q hq; exact wp_exit (hq (.exit id) st σ outs h same env a w (Env.le_refl _) hr hf)
  | seq x y ihx ihy =>
    intro st σ k outs h env a w ho hr hf Q hq
    refine wp_seq (ihx st σ _ outs h env a w ho hr hf _ ?_)
    intro x' st' σ' outs' hk hsub env' a' w' hle hr' hf'
    cases x' with
    | normal => exact ihy st' σ' k outs' hk env' a' w' (ho.le hle) hr' hf' Q fun x'' st'' σ'' outs'' hk' hsub' env'' a'' w'' hle' => hq x'' st'' σ'' outs'' hk' (fun y hy => hsub y (hsub' y hy)) env'' a'' w'' (hle.trans' hle')
    | exit id => exact hq (.exit id) st' σ' outs' hk hsub env' a' w' hle hr' hf'
    | ret => exact hq .ret st' σ' outs' hk hsub env' a' w' hle hr' hf'
  | cond c x y ihx ihy =>
    intro st σ k outs h env a w ho hr hf Q hq
    have h : (match evalS st c with
      | some (.bool b) => @Bool.rec (fun _ => Option Outs) (xCodeK op call reg y st σ k) (xCodeK op call reg x st σ k) b
      | _ => none) = some outs := h
    split at h
    · rename_i b hc
      have hv := evalS_den hf.tmps hc
      simp only [den, Option.some.injEq] at hv
      cases b with
      | true => exact wp_cond_true hv.symm (ihx st σ k outs h env a w ho hr hf Q hq)
      | false => exact wp_cond_false hv.symm (ihy st σ k outs h env a w ho hr hf Q hq)
    · cases h
  | block id c ih =>
    intro st σ k outs h env a w ho hr hf Q hq
    refine wp_block (ih st σ _ outs h env a w ho hr hf _ ?_)
    intro x' st' σ' outs' hk hsub env' a' w' hle hr' hf'
    cases x' with
    | normal => exact hq .normal st' σ' outs' hk hsub env' a' w' hle hr' hf'
    | ret => exact hq .ret st' σ' outs' hk hsub env' a' w' hle hr' hf'
    | exit id' =>
      show Exit.inBlock id Q (.exit id') a' w'
      have hk : @Bool.rec (fun _ => Option Outs) (k (.exit id') st' σ') (k .normal st' σ') (Nat.beq id' id) = some outs' := hk
      simp only [Exit.inBlock]
      cases hb : Nat.beq id' id with
      | true =>
        rw [hb] at hk
        rw [if_pos (Nat.eq_of_beq_eq_true hb)]
        exact hq .normal st' σ' outs' hk hsub env' a' w' hle hr' hf'
      | false =>
        rw [hb] at hk
        rw [if_neg (Nat.ne_of_beq_eq_false hb)]
        exact hq (.exit id') st' σ' outs' hk hsub env' a' w' hle hr' hf'
  | scope c ih =>
    intro st σ k outs h env a w ho hr hf Q hq
    refine wp_scope_straight (ih st σ k outs h env a w ho hr hf _ ?_)
    intro x' st' σ' outs' hk hsub env' a' w' hle hr' hf'
    have := hq x' st' σ' outs' hk hsub env' a' w' hle hr' hf'
    cases x' with
    | normal => exact this
    | ret => exact this
    | exit id' => exact this
  | loop c ih => exact (xLoopK_ok ih 1000000 : CodeOk P w0 (.loop c) (xLoopK (xCodeK op call reg c) 1000000))
  | region id ops draw =>
    intro st σ k outs h env a w ho hr hf Q hq
    cases draw with
    | false =>
      refine wp_region_list (xOpsK_ok hop hcall _ st σ _ outs h env a w ho hr hf Q ?_)
      intro st' σ' outs' hk hsub env' a' w' hle hr' hf'
      exact hq .normal st' σ' outs' hk hsub env' a' w' hle hr' hf'
    | true =>
      exact hreg ops st σ _ outs h env a w ho hr hf id Q fun st' σ' outs' hk hsub env' a' w' hle hr' hf' => hq .normal st' σ' outs' hk hsub env' a' w' hle hr' hf'
  | rangeFunc f ps x y _ _ => intro st σ k outs h; exact absurd (show (none : Option Outs) = some outs from h) (by simp)
  | goto l => intro st σ k outs h; exact absurd (show (none : Option Outs) = some outs from h) (by simp)
  | refuse why => intro st σ k outs h; exact absurd (show (none : Option Outs) = some outs from h) (by simp)

/-- A function's results. -/
noncomputable def sRes (P : Program) (st : Row) (σ : SH) : List ResultVar → Option (List SV)
  | [] => some []
  | .tmp t :: r => match sRes P st σ r with
    | some l => some (st.at t :: l)
    | none => none
  | .cell t T :: r => match st.at t with
    | .ptr n off => match sload P σ T n off, sRes P st σ r with
      | some s, some l => some (s :: l)
      | _, _ => none
    | _ => none
def resOne (tmps : Array Value) : ResultVar → Sem Value
  | .tmp t => pure (tmps.getD t undef)
  | .cell a t => do loadVar t (← asAddr (tmps.getD a undef))
theorem results_eq (fn : Func) (tmps : Array Value) : results fn tmps = (do let vs ← fn.results.mapM (resOne tmps); pure (if h : vs.size = 1 then vs[0] else .tuple vs)) := by
  unfold results
  have : (fun x => match x with | .tmp t => pure (tmps.getD t undef) | .cell a t => do loadVar t (← asAddr (tmps.getD a undef)) : ResultVar → Sem Value) = resOne tmps := by
    funext x; cases x <;> rfl
  rw [← this]
  rfl
theorem sRes_ok {env : Env} {st : Row} {σ : SH} {w : World} {a : Act} (hr : Rel P w0 env σ w) (hf : FRel env st a) : ∀ {rs : List ResultVar} {l : List SV}, sRes P st σ rs = some l → ∃ vs, denL env l = some vs ∧
    (rs.mapM (resOne a.tmps)).run P w = .ok vs w := by
  intro rs
  induction rs with
  | nil => intro l h; simp only [sRes] at h; cases h; exact ⟨[], rfl, by simp⟩
  | cons x r ih =>
    intro l h
    cases x with
    | tmp t =>
      simp only [sRes] at h
      split at h
      · rename_i m hm; cases h
        obtain ⟨vs, h1, h2⟩ := ih hm
        exact ⟨a.tmps.getD t undef :: vs, denL_mk (hf.tmps t) h1, by simp [List.mapM_cons, resOne, h2]⟩
      · cases h
    | cell t T =>
      simp only [sRes] at h
      split at h
      · rename_i n off ht
        split at h
        · rename_i s m hs hm; cases h
          have hd := hf.tmps t
          rw [ht] at hd
          obtain ⟨b, c, he, hv⟩ := den_ptr hd
          obtain ⟨u, hu, hrun⟩ := sload_ok hr hs he
          obtain ⟨vs, h1, h2⟩ := ih hm
          exact ⟨u :: vs, denL_mk hu h1, by simp [List.mapM_cons, resOne, hv, h2, asAddr, hrun]⟩
        · cases h
      · cases h

def oneOr : List SV → SV
  | [s] => s
  | l => .tuple l

/-- A frame's end. -/
noncomputable def endK (P : Program) (rs : List ResultVar) : KX := fun x st σ => match x with
  | .exit _ => none
  | .normal => match sRes P st σ rs with
    | none => none
    | some l => some [(oneOr l, σ)]
  | .ret => match sRes P st σ rs with
    | none => none
    | some l => some [(oneOr l, σ)]
/-- A call: by a summary, or by its body. -/
noncomputable def xCall (P : Program) (op : OpF) (summ : CallF) (reg : CallF → RegF) (d : Nat) : CallF :=
  @Nat.rec (fun _ => CallF) (fun _ _ _ => none) (fun _ ih f args σ => match summ f args σ with
    | some o => some o
    | none => match P.funcs[f]? with
      | none => none
      | some fn => match fn.body with
        | none => none
        | some c => xCodeK op ih (reg ih) c (rowOf args fn.ntmps) σ (endK P fn.results.toList)) d
theorem xCall_succ (P : Program) (op : OpF) (summ : CallF) (reg : CallF → RegF) (d : Nat) (f : FuncId) (args : List SV) (σ : SH) : xCall P op summ reg (d + 1) f args σ = (match summ f args σ with
    | some o => some o
    | none => match P.funcs[f]? with
      | none => none
      | some fn => match fn.body with
        | none => none
        | some c => xCodeK op (xCall P op summ reg d) (reg (xCall P op summ reg d)) c (rowOf args fn.ntmps) σ (endK P fn.results.toList)) := rfl
theorem denL_undefs {env : Env} : ∀ n, denL env (List.replicate n SV.undef) = some (List.replicate n undef) := by
  intro n
  induction n with
  | zero => rfl
  | succ n ih => rw [List.replicate_succ, List.replicate_succ]; exact denL_mk (by simp only [den]) ih
theorem oneOr_den {env : Env} {l : List SV} {vs : List Value} (h : denL env l = some vs) : den env (oneOr l) = some (if h : vs.toArray.size = 1 then vs.toArray[0] else .tuple vs.toArray) := by
  unfold oneOr
  split
  · rename_i s
    obtain ⟨v, us, h1, h2, rfl⟩ := denL_cons h
    simp only [denL] at h2; cases h2
    simp [h1]
  · rename_i hne
    have hl := denL_length h
    have : ¬ vs.toArray.size = 1 := by
      intro e
      have : l.length = 1 := by rw [← hl]; simpa using e
      obtain ⟨s, rfl⟩ := List.length_eq_one_iff.1 this
      exact hne s rfl
    rw [dif_neg this]
    simp only [den, h]
theorem xCall_ok {op : OpF} {summ : CallF} {reg : CallF → RegF} (hop : ∀ b, OpSound P b op) (hsumm : ∀ b, CallSound P b summ) (hreg : ∀ call, (∀ b, CallSound P b call) → ∀ b, RegSound P b (reg call)) : ∀ d b, CallSound P b (xCall P op summ reg d) := by
  intro d
  induction d with
  | zero => intro w0 f args σ outs env w vs h; exact absurd (show (none : Option Outs) = some outs from h) (by simp)
  | succ d ih =>
    intro w0 f args σ outs env w vs h ho hr hd
    rw [xCall_succ] at h
    split at h
    · rename_i o hs; cases h; exact hsumm w0 f args σ _ env w vs hs ho hr hd
    · split at h
      · cases h
      · rename_i fn hfn
        split at h
        · cases h
        · rename_i c hb
          have hlen := denL_length hd
          refine calls_of_wp hfn hb (xCodeK_ok (hop w0) (ih w0) (hreg _ ih w0) c _ σ _ outs h env _ w ho hr ⟨?_, fun t => ?_, rfl⟩ _ ?_)
          · simp only [rowOf, Array.size_append, Array.size_replicate, List.size_toArray]
            rw [hlen]; rfl
          · rw [rowOf_at, Array.getD_eq_getD_getElem?]
            rcases Nat.lt_or_ge t args.length with ht | ht
            · obtain ⟨v, hv, hdv⟩ := denL_get hd (List.getElem?_eq_getElem ht)
              rw [List.getElem?_eq_getElem ht, Array.getElem?_append_left (by simp; omega), List.getElem?_toArray, hv]
              exact hdv
            · rw [List.getElem?_eq_none ht]
              have e : (vs.toArray ++ Array.replicate (fn.ntmps - vs.toArray.size) undef)[t]?.getD undef = undef := by
                rw [Array.getElem?_append_right (by simp; omega), Array.getElem?_replicate]
                split <;> rfl
              simp only [Option.getD_none, den]
              exact congrArg some e.symm
          · intro x st' σ' outs' hk hsub env' a' w' hle hr' hf'
            have fin : ∀ l, sRes P st' σ' fn.results.toList = some l → outs' = [(oneOr l, σ')] → a'.defers = [] ∧ ∃ v, (results fn a'.tmps).run P w' = .ok v w' ∧ Comes1 P w0 env outs (.returned v) w' := by
              intro l hl hy'
              obtain ⟨us, h1, h2⟩ := sRes_ok hr' hf' hl
              refine ⟨hf'.defers, _, ?_, _, hsub _ (by rw [hy']; exact List.mem_singleton.2 rfl), env', _, rfl, hle, hr', oneOr_den h1⟩
              rw [results_eq, Array.mapM_eq_mapM_toList]
              simp [h2]
            cases x with
            | exit id => exact absurd (show (none : Option Outs) = some outs' from hk) (by simp)
            | normal =>
              simp only [endK] at hk
              split at hk
              · cases hk
              · rename_i l hl; cases hk; exact fin l hl rfl
            | ret =>
              simp only [endK] at hk
              split at hk
              · cases hk
              · rename_i l hl; cases hk; exact fin l hl rfl
end Go.Proofs.YthenjjonphoklaaGreatDoor
