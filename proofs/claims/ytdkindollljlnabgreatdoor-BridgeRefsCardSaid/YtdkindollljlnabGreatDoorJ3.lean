/-
  THE EXECUTOR, part P: a region that draws its order: what a plan of it must keep, and that it serves.

  THE EXECUTOR, part Q: equality of symbolic values; what operations look at; operations that leave the heap alone.

  THE EXECUTOR, part P2: plans in which a block that was made early lands at the first move that looks at it.
-/
import Derived.Test.YtdkindollljlnabGreatDoorJ2
set_option linter.unusedSectionVars false
set_option linter.unusedSimpArgs false
set_option linter.unusedVariables false
namespace Go.Proofs.YtdkindollljlnabGreatDoor
open Go Go.RowKit
variable [Known]

variable {P : Program} {w0 : Base}

/-- The slots in which the marked operations among the first k are done. -/
noncomputable def fillS (ops : Array Oper) (f : Nat → SV) (st : Row) (m : Nat → Bool) : Nat → Row
  | 0 => st
  | k + 1 => if m k then putS (fillS ops f st m k) (slotOf ops k) (f k) else fillS ops f st m k

section
variable {ops : Array Oper}
theorem putS_comm (st : Row) {x y : Option Tmp} (v u : SV) (h : ∀ d, x = some d → y ≠ some d) : putS (putS st x v) y u = putS (putS st y u) x v := by
  cases x with
  | none => rfl
  | some d =>
    cases y with
    | none => rfl
    | some e =>
      have hne : d ≠ e := fun he => h d rfl (he ▸ rfl)
      simp only [putS_some]
      exact Row.set_comm _ _ _ hne
theorem fillS_congr {f : Nat → SV} {st : Row} {m m' : Nat → Bool} : ∀ k, (∀ j < k, m j = m' j) → fillS ops f st m k = fillS ops f st m' k := by
  intro k
  induction k with
  | zero => intro _; rfl
  | succ k ih => intro h; simp only [fillS]; rw [ih (fun j hj => h j (by omega)), h k (by omega)]
theorem fillS_setp {f : Nat → SV} {st : Row} {m : Nat → Bool} {i p : Nat} (hd : ∀ j d, j < p → slotOf ops j = some d → slotOf ops i = some d → j = i) (hm : m i = false) :
    ∀ k, k ≤ p → i < k → fillS ops f st (fun j => m j || j == i) k = putS (fillS ops f st m k) (slotOf ops i) (f i) := by
  intro k
  induction k with
  | zero => intro _ h; omega
  | succ k ih =>
    intro hkp h
    simp only [fillS]
    by_cases hk : k = i
    · subst hk
      simp only [hm, BEq.rfl, Bool.or_true, if_true, Bool.false_eq_true, if_false]
      rw [fillS_congr (m' := m) k (fun j hj => by simp; omega)]
    · rw [ih (by omega) (by omega)]
      have hb : (k == i) = false := by simpa using hk
      simp only [hb, Bool.or_false]
      split
      · exact putS_comm _ _ _ fun d h1 h2 => hk (hd k d (by omega) h2 h1)
      · rfl
theorem putS_n (st : Row) (d : Option Tmp) (v : SV) : (putS st d v).n = st.n := by cases d <;> simp [putS, Row.set_n]
theorem fillS_n {f : Nat → SV} {st : Row} {m : Nat → Bool} : ∀ k, (fillS ops f st m k).n = st.n := by
  intro k
  induction k with
  | zero => rfl
  | succ k ih => simp only [fillS]; split <;> simp [putS_n, ih]
theorem fillS_look {f : Nat → SV} {st : Row} {m m' : Nat → Bool} {t : Tmp} : ∀ k, (∀ j < k, slotOf ops j = some t → m j = m' j) → (fillS ops f st m k).at t = (fillS ops f st m' k).at t := by
  intro k
  induction k with
  | zero => intro _; rfl
  | succ k ih =>
    intro h
    have ih := ih fun j hj => h j (by omega)
    have hs := (fillS_n (ops := ops) (f := f) (st := st) (m := m) k).trans (fillS_n (ops := ops) (f := f) (st := st) (m := m') k).symm
    simp only [fillS]
    by_cases ht : slotOf ops k = some t
    · rw [h k (by omega) ht]
      split
      · simp only [ht, putS_some]
        rcases Nat.lt_or_ge t (fillS ops f st m k).n with hl | hl
        · rw [Row.at_set_eq _ hl, Row.at_set_eq _ (hs ▸ hl)]
        · rw [Row.set_ge _ hl, Row.set_ge _ (hs ▸ hl), ih]
      · exact ih
    · have hp : ∀ b : Row, (putS b (slotOf ops k) (f k)).at t = b.at t := by
        intro b
        cases hk : slotOf ops k with
        | none => rfl
        | some d => simp only [putS_some]; rw [Row.at_set_ne]; intro e; subst e; exact ht hk
      split <;> split <;> simp only [hp, ih]
end

/-- What an operation needs, at last. -/
inductive Needs (ops : Array Oper) : Nat → Nat → Prop where
  | here {q : Nat} {o : Oper} {e : Edge} : ops[q]? = some o → e ∈ o.after → Region.binds .any e = true → Needs ops q e.on
  | more {q i : Nat} {o : Oper} {e : Edge} : ops[q]? = some o → e ∈ o.after → Region.binds .any e = true → Needs ops e.on i → Needs ops q i
/-- What is listed has what it needs listed. -/
def Closed (ops : Array Oper) (L : Array Bool) : Prop := ∀ i o, ops[i]? = some o → L.getD i false = true → ∀ e ∈ o.after, Region.binds .any e = true → L.getD e.on false = true
theorem Closed.needs {ops : Array Oper} {L : Array Bool} (h : Closed ops L) {q i : Nat} (hn : Needs ops q i) : L.getD q false = true → L.getD i false = true := by
  induction hn with
  | here ho he hb => intro hq; exact h _ _ ho hq _ he hb
  | more ho he hb _ ih => intro hq; exact ih (h _ _ ho hq _ he hb)
theorem Closed.ready {ops : Array Oper} {L : Array Bool} (h : Closed ops L) {q i : Nat} {o : Oper} (ho : ops[q]? = some o) (hr : ∀ e ∈ o.after, Region.binds .any e = true → L.getD e.on false = true) (hn : Needs ops q i) : L.getD i false = true := by
  cases hn with
  | here ho' he hb => rw [ho] at ho'; cases ho'; exact hr _ he hb
  | more ho' he hb hn' => rw [ho] at ho'; cases ho'; exact h.needs hn' (hr _ he hb)
theorem Closed.set {ops : Array Oper} {L : Array Bool} (h : Closed ops L) {i : Nat} {o : Oper} (ho : ops[i]? = some o) (hr : ∀ e ∈ o.after, Region.binds .any e = true → L.getD e.on false = true) (hi : i < L.size) : Closed ops (L.setIfInBounds i true) := by
  intro q o' ho' hq e he hb
  have hset : ∀ x, (L.setIfInBounds i true).getD x false = (L.getD x false || x == i) := fun x => by
    by_cases hx : x = i
    · subst hx; simp [hi]
    · rw [getD_set_ne false (Ne.symm hx)]; simp [hx]
  rw [hset] at hq ⊢
  by_cases hqi : q = i
  · subst hqi
    rw [ho] at ho'; cases ho'
    rw [hr e he hb]; rfl
  · have hbb : (q == i) = false := by simpa using hqi
    rw [hbb, Bool.or_false] at hq
    rw [h q o' ho' hq e he hb]; rfl

/-- A region's shape: a first part of p operations, and a tail each of whose operations needs all ahead of it. -/
structure Shape (ops : Array Oper) (p : Nat) : Prop where
  le : p ≤ ops.size
  back : ∀ i o, ops[i]? = some o → ∀ e ∈ o.after, Region.binds .any e = true → e.on < i
  reads : ∀ i o, i < p → ops[i]? = some o → ∀ q t, q < p → slotOf ops q = some t → t ∈ o.looksAt ops → q < i ∧ ∃ e ∈ o.after, Region.binds .any e = true ∧ e.on = q
  slots : ∀ i j d, i < p → j < p → slotOf ops i = some d → slotOf ops j = some d → i = j
  tail : ∀ q i, p ≤ q → q < ops.size → i < q → Needs ops q i

theorem shape_listed {ops : Array Oper} {p : Nat} (hs : Shape ops p) {L : Array Bool} (hL : L.size = ops.size) (hr : Region.ready .any ops L = []) : ∀ j, j < ops.size → L.getD j false = true := by
  intro j
  induction j using Nat.strongRecOn with
  | _ j ih =>
    intro hj
    cases hx : L.getD j false with
    | true => rfl
    | false =>
      have ho : ops[j]? = some ops[j] := Array.getElem?_eq_getElem hj
      have hmem : j ∈ Region.ready .any ops L := mem_ready.2 ⟨by rw [← getD_both (by omega)]; exact hx, _, ho, fun e he hb => by
        have h1 := hs.back j _ ho e he hb
        exact ih _ h1 (by omega)⟩
      rw [hr] at hmem; cases hmem

/-- The tail goes in the text's order. -/
theorem seq_any {ops : Array Oper} {p : Nat} (hs : Shape ops p) {Q : Exit → Act → World → Prop} : ∀ (fuel q : Nat) (L : Array Bool) (a : Act) (w : World), L.size = ops.size → ops.size - q ≤ fuel → p ≤ q → q ≤ ops.size →
    (∀ i, i < ops.size → L.getD i false = decide (i < q)) → wpList P ops Q (ops.toList.drop q) a w → wpAny P .any ops Q fuel L a w := by
  intro fuel
  induction fuel with
  | zero =>
    intro q L a w hL hf hpq hq hl h
    have hqe : q = ops.size := by omega
    have hrd : Region.ready .any ops L = [] := by
      rcases hx : Region.ready .any ops L with _ | ⟨i, xs⟩
      · rfl
      · have hi : i ∈ Region.ready .any ops L := by rw [hx]; exact List.mem_cons_self
        obtain ⟨h0, o, ho, _⟩ := mem_ready.1 hi
        have hlt := (Array.getElem?_eq_some_iff.1 ho).1
        have := hl i hlt
        rw [getD_both (by omega), h0] at this
        have : ¬ i < q := by simpa using this
        omega
    have hd : ops.toList.drop q = [] := List.drop_eq_nil_of_le (by simp; omega)
    rw [hd] at h
    exact ⟨hrd, h⟩
  | succ fuel ih =>
    intro q L a w hL hf hpq hq hl h
    by_cases hqe : q = ops.size
    · have hd : ops.toList.drop q = [] := List.drop_eq_nil_of_le (by simp; omega)
      rw [hd] at h
      refine ⟨fun _ => h, fun i hi => ?_⟩
      obtain ⟨h0, o, ho, _⟩ := mem_ready.1 hi
      have hlt := (Array.getElem?_eq_some_iff.1 ho).1
      have := hl i hlt
      rw [getD_both (by omega), h0] at this
      have : ¬ i < q := by simpa using this
      omega
    · have hqlt : q < ops.size := by omega
      have ho : ops[q]? = some ops[q] := Array.getElem?_eq_getElem hqlt
      have hd : ops.toList.drop q = ops[q] :: ops.toList.drop (q + 1) := by
        rw [List.drop_eq_getElem_cons (by simpa using hqlt)]
        simp
      rw [hd] at h
      refine ⟨fun hrd => ?_, fun i hi => ?_⟩
      · have hmem : q ∈ Region.ready .any ops L := mem_ready.2 ⟨by rw [← getD_both (by omega), hl q hqlt]; simp, _, ho, fun e he hb => by
          have h1 := hs.back q _ ho e he hb
          rw [hl _ (by omega)]; simp [h1]⟩
        rw [hrd] at hmem; cases hmem
      · obtain ⟨h0, o, hoi, hall⟩ := mem_ready.1 hi
        have hlt := (Array.getElem?_eq_some_iff.1 hoi).1
        have hiq : i = q := by
          have h1 := hl i hlt
          rw [getD_both (by omega), h0] at h1
          have h1 : ¬ i < q := by simpa using h1
          rcases Nat.lt_trichotomy i q with h | h | h
          · omega
          · exact h
          · exfalso
            have hcl : Closed ops L := fun x ox hox hlx e he hb => by
              have hxl := (Array.getElem?_eq_some_iff.1 hox).1
              rw [hl x hxl] at hlx
              have hxq : x < q := by simpa using hlx
              have := hs.back x ox hox e he hb
              rw [hl _ (by omega)]; simp; omega
            have := hcl.ready hoi hall (hs.tail i q (by omega) hlt h)
            rw [hl q hqlt] at this
            simp at this
        subst hiq
        rw [ho] at hoi; cases hoi
        have next : ∀ a' w', wpList P ops Q (ops.toList.drop (i + 1)) a' w' → wpAny P .any ops Q fuel (L.setIfInBounds i true) a' w' := fun a' w' h' =>
          ih (i + 1) _ a' w' (by simp [hL]) (by omega) (by omega) (by omega) (fun x hx => by
            by_cases hxi : x = i
            · subst hxi
              have : x < L.size := by omega
              simp [this]
            · rw [getD_set_ne false (Ne.symm hxi), hl x hx]
              rw [decide_eq_decide]; omega) h'
        unfold wpList at h
        unfold wpOp
        simp only [ho]
        split at h
        · rename_i hw
          rw [if_pos hw]
          rcases h with h | h
          · exact .inl (Oper.wp_mono next h)
          · exact .inr h
        · rename_i hw
          rw [if_neg hw]
          exact next _ _ h

/-- What a plan of the first part keeps. Blocks that are made without more (fl) may come up at any time. -/
structure Plan (P : Program) (op : OpF) (call : CallF) (ops : Array Oper) (p : Nat) (st : Row) (f : Nat → SV) (lo mv : Nat → Nat) (σs : Nat → SH) (k : Nat) (fl : Nat → Option (Nat × TypeId)) : Prop where
  shape : Shape ops p
  each : ∀ i o, i < p → ops[i]? = some o → fl i = none →
    (wantS ops o (fillS ops f st (fun _ => true) i) = some false ∧ f i = .undef ∧ mv i = 0) ∨
    (wantS ops o (fillS ops f st (fun _ => true) i) = some true ∧
      ((mv i = 0 ∧ ∀ j ≤ k, lo i ≤ j → (∀ q, 1 ≤ mv q → mv q ≤ j → ¬ Needs ops q i) → op (fillS ops f st (fun _ => true) i) o (σs j) = some (.val (f i) (σs j))) ∨
       (1 ≤ mv i ∧ mv i ≤ k ∧ (op (fillS ops f st (fun _ => true) i) o (σs (mv i - 1)) = some (.val (f i) (σs (mv i))) ∨
          ∃ g args σ', op (fillS ops f st (fun _ => true) i) o (σs (mv i - 1)) = some (.enter g args σ') ∧ call g args σ' = some [(f i, σs (mv i))]))))
  flop : ∀ i n T, fl i = some (n, T) → i < p ∧ f i = .ptr n 0 ∧ mv i = 0 ∧ (∃ o, ops[i]? = some o ∧ o.op = .alloc T ∧ o.guard = none) ∧ ∃ s, szero P T = some s
  flinj : ∀ i i' n T T', fl i = some (n, T) → fl i' = some (n, T') → i = i'
  flnx : ∀ i n T j, fl i = some (n, T) → j ≤ k → n < (σs j).next
  low : ∀ i o j, i < p → ops[i]? = some o → (∀ e ∈ o.after, Region.binds .any e = true → mv e.on ≤ j ∧ lo e.on ≤ j) → lo i ≤ j
  chain : ∀ i o, i < p → ops[i]? = some o → 2 ≤ mv i → ∃ e ∈ o.after, Region.binds .any e = true ∧ (mv i - 1 ≤ mv e.on ∨ mv i - 1 ≤ lo e.on)
  inj : ∀ i i', 1 ≤ mv i → mv i = mv i' → i = i'
  out : ∀ i, p ≤ i → mv i = 0
  top : k = 0 ∨ ∃ i, i < p ∧ mv i = k

def OpCong (op : OpF) : Prop := ∀ (ops : Array Oper) st st' o σ, (∀ t, t ∈ o.looksAt ops → st.at t = st'.at t) → op st o σ = op st' o σ
theorem wantS_cong {ops : Array Oper} {o : Oper} {st st' : Row} (h : ∀ t, t ∈ o.looksAt ops → st.at t = st'.at t) : wantS ops o st = wantS ops o st' := by
  unfold wantS
  split
  · rfl
  · rename_i g want hg
    split
    · rfl
    · rename_i t hd
      rw [h t (by simp [Oper.looksAt, hg, hd])]

/-- The blocks that were made without more. -/
structure FInv (P : Program) (w0 : Base) (fl : Nat → Option (Nat × TypeId)) (L : Array Bool) (env : Env) (σ : SH) (w : World) : Prop where
  off : ∀ i n T, fl i = some (n, T) → L.getD i false = false → env.blocks n = none
  on : ∀ i n T, fl i = some (n, T) → L.getD i false = true → ∃ b s vs, env.blocks n = some (b, 0) ∧ b < w.heap.size ∧ ¬ w0.keep b ∧ szero P T = some s ∧ denL env (cellsS s) = some vs ∧ w.heap[b]? = some (.cells vs.toArray T (0, 0)) ∧
    ∀ m o x, σ.get m = some o → env.blocks m = some x → x.1 ≠ b
  apart : ∀ i i' n n' T T' b b', fl i = some (n, T) → fl i' = some (n', T') → i ≠ i' → env.blocks n = some b → env.blocks n' = some b' → b.1 ≠ b'.1

/-- The base of one step: what is kept, and the blocks that were made without more. -/
def stepBase (w0 : Base) (fl : Nat → Option (Nat × TypeId)) (env : Env) (w : World) : Base := ⟨w, fun b => w0.keep b ∨ ∃ i n T c, fl i = some (n, T) ∧ env.blocks n = some (b, c)⟩
section
variable {fl : Nat → Option (Nat × TypeId)} {L : Array Bool} {env env' : Env} {σ σ' : SH} {w w' : World}
theorem Rel.rebase (h : Rel P w0 env σ w) (hf : FInv P w0 fl L env σ w) (hall : ∀ i n T, fl i = some (n, T) → L.getD i false = true ∨ L.getD i false = false) : Rel P (stepBase w0 fl env w) env σ w := by
  have on : ∀ b i n T c, fl i = some (n, T) → env.blocks n = some (b, c) → b < w.heap.size ∧ ∀ m o x, σ.get m = some o → env.blocks m = some x → x.1 ≠ b := fun b i n T c hi hb => by
    rcases hall i n T hi with hl | hl
    · obtain ⟨b', s, vs, h1, h2, h3, h4, h5, h6, h7⟩ := hf.on i n T hi hl
      rw [hb] at h1; cases h1
      exact ⟨h2, h7⟩
    · rw [hf.off i n T hi hl] at hb; cases hb
  refine ⟨⟨h.maxLen, fun g hg => .inl (h.okay.2.1 g hg), Known.mono _ _ _ _ _ (fun b hk => ⟨.inl hk, (h.below.block b hk).2⟩) h.okay.2.2⟩, ⟨rfl, rfl, rfl, Nat.le_refl _, fun k hk => ⟨?_, rfl⟩⟩, h.nx, h.fresh, fun n o hn => ?_, h.apart⟩
  · rcases hk with hk | ⟨i, n, T, c, hi, hb⟩
    · have := (h.below.block k hk).1
      have := h.below.size
      show k < w.heap.size
      omega
    · exact (on k i n T c hi hb).1
  · obtain ⟨b, c, h1, h2, h3⟩ := h.obj n o hn
    refine ⟨b, c, h1, fun hk => ?_, h3⟩
    rcases hk with hk | ⟨i, m, T, c', hi, hb⟩
    · exact h2 hk
    · exact (on b i m T c' hi hb).2 n o (b, c) hn h1 rfl
theorem Rel.unbase (h : Rel P w0 env σ w) (hgv : env'.given = env.given) (h' : Rel P (stepBase w0 fl env w) env' σ' w') : Rel P w0 env' σ' w' := by
  refine ⟨by rw [hgv]; exact h.okay, ⟨h'.below.os.trans h.below.os, h'.below.tape.trans h.below.tape, h'.below.output.trans h.below.output, Nat.le_trans h.below.size h'.below.size, fun k hk => ?_⟩, h'.nx, h'.fresh, fun n o hn => ?_, h'.apart⟩
  · obtain ⟨h1, h2⟩ := h.below.block k hk
    have h3 : w'.heap[k]? = w.heap[k]? := (h'.below.block k (.inl hk)).2
    exact ⟨h1, h3.trans h2⟩
  · obtain ⟨b, c, h1, h2, h3⟩ := h'.obj n o hn
    exact ⟨b, c, h1, fun hk => h2 (.inl hk), h3⟩
theorem FInv.step (hf : FInv P w0 fl L env σ w) (hnx : ∀ i n T, fl i = some (n, T) → n < env.next) (hle : env.le env') (h' : Rel P (stepBase w0 fl env w) env' σ' w') : FInv P w0 fl L env' σ' w' := by
  have back : ∀ {i n T}, fl i = some (n, T) → env'.blocks n = env.blocks n := fun {i n T} hi => hle.same n (hnx i n T hi)
  refine ⟨fun i n T hi hl => (back hi).trans (hf.off i n T hi hl), fun i n T hi hl => ?_, fun i i' n n' T T' b b' hi hi' hne hb hb' => ?_⟩
  · obtain ⟨b, s, vs, h1, h2, h3, h4, h5, h6, h7⟩ := hf.on i n T hi hl
    have hk : (stepBase w0 fl env w).keep b := .inr ⟨i, n, T, 0, hi, h1⟩
    obtain ⟨k1, k2⟩ := h'.below.block b hk
    have k2 : w'.heap[b]? = w.heap[b]? := k2
    refine ⟨b, s, vs, (back hi).trans h1, Nat.lt_of_lt_of_le h2 h'.below.size, h3, h4, denL_mono hle _ _ h5, k2.trans h6, fun m o x hm hx e => ?_⟩
    obtain ⟨b', c', e1, e2, _⟩ := h'.obj m o hm
    rw [hx] at e1; cases e1
    subst e
    exact e2 hk
  · rw [back hi] at hb; rw [back hi'] at hb'
    exact hf.apart i i' n n' T T' b b' hi hi' hne hb hb'
/-- A hole comes to stand for a block. -/
theorem Rel.fill (h : Rel P w0 env σ w) {n b : Nat} (hn : n < env.next) (hh : env.blocks n = none) :
    Rel P w0 { env with blocks := fun m => if m = n then some (b, 0) else env.blocks m } σ w ∧ env.ext { env with blocks := fun m => if m = n then some (b, 0) else env.blocks m } := by
  have hext : env.ext { env with blocks := fun m => if m = n then some (b, 0) else env.blocks m } := ⟨rfl, fun m x hx => by
    by_cases hm : m = n
    · subst hm; rw [hh] at hx; cases hx
    · simp [hm, hx]⟩
  have old : ∀ m o, σ.get m = some o → m ≠ n := fun m o hm e => by
    subst e
    obtain ⟨b', c', h1, _⟩ := h.obj m o hm
    rw [hh] at h1; cases h1
  refine ⟨⟨h.okay, h.below, h.nx, fun m hm => ?_, fun m o hm => ?_, fun m m' o o' x y hne hm hm' hx hy => ?_⟩, hext⟩
  · have : m ≠ n := by have := h.nx; omega
    simp only [this, if_false]
    exact h.fresh m hm
  · obtain ⟨b', c', h1, h2, h3⟩ := h.obj m o hm
    exact ⟨b', c', hext.some m _ h1, h2, h3.ext hext rfl⟩
  · simp only [old m o hm, old m' o' hm', if_false] at hx hy
    exact h.apart m m' o o' x y hne hm hm' hx hy
/-- The blocks that were made without more come into the heap. -/
theorem Rel.land (h : Rel P w0 env σ w) {n b c : Nat} {so : SO} (hn : n < σ.next) (hb : env.blocks n = some (b, c)) (hk : ¬ w0.keep b) (ho : ORel P env w b c so) (hfree : ∀ m o x, σ.get m = some o → env.blocks m = some x → x.1 ≠ b) :
    Rel P w0 env (σ.put n (some so)) w := by
  refine ⟨h.okay, h.below, h.nx, h.fresh, fun m y hy => ?_, fun m m' y z x1 y1 hne hy hz hx1 hy1 => ?_⟩
  · rcases SH.get_put hy with ⟨rfl, hso⟩ | ⟨hmn, hy⟩
    · cases hso; exact ⟨b, c, hb, hk, ho⟩
    · exact h.obj m y hy
  · rcases SH.get_put hy with ⟨rfl, _⟩ | ⟨hmn, hy'⟩ <;> rcases SH.get_put hz with ⟨rfl, _⟩ | ⟨hmn', hz'⟩
    · exact absurd rfl hne
    · rw [hb] at hx1; cases hx1
      exact fun e => hfree m' z y1 hz' hy1 e.symm
    · rw [hb] at hy1; cases hy1
      exact hfree m y x1 hy' hx1
    · exact h.apart m m' y z x1 y1 hne hy' hz' hx1 hy1
end

theorem plan_any {op : OpF} {call : CallF} (hop : ∀ b, OpSound P b op) (hcong : OpCong op) (hcall : ∀ b, CallSound P b call) {ops : Array Oper} {p : Nat} {st : Row} {f : Nat → SV} {lo mv : Nat → Nat} {σs : Nat → SH} {k : Nat} {fl : Nat → Option (Nat × TypeId)}
    (hp : Plan P op call ops p st f lo mv σs k fl) {env0 : Env} (ho0 : env0.ones) (hfl0 : ∀ i n T, fl i = some (n, T) → env0.next ≤ n) {Q : Exit → Act → World → Prop}
    (hQ : ∀ L env a w, L.size = ops.size → (∀ i, i < p → L.getD i false = true) → env0.le env → Rel P w0 env (σs k) w → FInv P w0 fl L env (σs k) w → FRel env (fillS ops f st (fun _ => true) p) a → wpList P ops Q (ops.toList.drop p) a w) :
    ∀ (fuel : Nat) (L : Array Bool) (a : Act) (w : World) (j : Nat) (env : Env), L.size = ops.size → unlisted L ops.size ≤ fuel → j ≤ k →
      (∀ i, p ≤ i → L.getD i false = false) →
      (∀ i, i < p → L.getD i false = true → mv i ≤ j ∧ lo i ≤ j) → (∀ i, i < p → L.getD i false = false → mv i = 0 ∨ j < mv i) →
      Closed ops L → env0.le env → Rel P w0 env (σs j) w → FInv P w0 fl L env (σs j) w → FRel env (fillS ops f st (fun i => L.getD i false) p) a →
      wpAny P .any ops Q fuel L a w := by
  have hsh := hp.shape
  -- the first part is over
  have hend : ∀ (fuel : Nat) (L : Array Bool) (a : Act) (w : World) (j : Nat) (env : Env), L.size = ops.size → unlisted L ops.size ≤ fuel → j ≤ k → (∀ i, p ≤ i → L.getD i false = false) → (∀ i, i < p → L.getD i false = true → mv i ≤ j ∧ lo i ≤ j) → env0.le env → Rel P w0 env (σs j) w → FInv P w0 fl L env (σs j) w →
      FRel env (fillS ops f st (fun i => L.getD i false) p) a → (∀ i, i < p → L.getD i false = true) → wpAny P .any ops Q fuel L a w := by
    intro fuel L a w j env hL hu hj hsuf h1 hle hr hfi hf hall
    have hjk : j = k := by
      rcases hp.top with h | ⟨i, hi, h⟩
      · omega
      · have := (h1 i hi (hall i hi)).1; omega
    subst hjk
    have hcnt : ops.size - p ≤ unlisted L ops.size := by
      have key : ∀ n, n ≤ ops.size → n - p ≤ unlisted L n := by
        intro n
        induction n with
        | zero => intro _; omega
        | succ n ihn =>
          intro hn
          have := ihn (by omega)
          simp only [unlisted]
          by_cases hpn : p ≤ n
          · have hf := hsuf n hpn
            rw [getD_both (by omega)] at hf
            rw [hf]
            simp; omega
          · omega
      exact key _ (Nat.le_refl _)
    refine seq_any hsh fuel p L a w hL (by omega) (Nat.le_refl _) hsh.le (fun i hi => ?_) (hQ L env a w hL hall hle hr hfi ?_)
    · by_cases hip : i < p
      · rw [hall i hip]; simp [hip]
      · rw [hsuf i (by omega)]; simp [hip]
    · rw [fillS_congr (m' := fun _ => true) p hall] at hf
      exact hf
  intro fuel
  induction fuel with
  | zero =>
    intro L a w j env hL hu hj hsuf h1 h2 h3 hle hr hfi hf
    refine hend 0 L a w j env hL hu hj hsuf h1 hle hr hfi hf fun i hi => ?_
    have := unlisted_zero (L := L) ops.size (by omega) i (by have := hsh.le; omega)
    rw [getD_both (by have := hsh.le; omega)]; exact this
  | succ fuel ih =>
    intro L a w j env hL hu hj hsuf h1 h2 h3 hle hr hfi hf
    by_cases hallp : ∀ i, i < p → L.getD i false = true
    · exact hend (fuel + 1) L a w j env hL hu hj hsuf h1 hle hr hfi hf hallp
    have hnx : ∀ i n T, fl i = some (n, T) → n < env.next := fun i n T hi => by rw [hr.nx]; exact hp.flnx i n T j hi hj
    have hb2 : ∀ i n T, fl i = some (n, T) → L.getD i false = true ∨ L.getD i false = false := fun i _ _ _ => by cases L.getD i false <;> simp
    refine ⟨fun hrd => ?_, fun i hi => ?_⟩
    · exact absurd (fun i hi => shape_listed hsh hL hrd i (by have := hsh.le; omega)) hallp
    obtain ⟨h0, o, ho, hall⟩ := mem_ready.1 hi
    have hlt : i < ops.size := (Array.getElem?_eq_some_iff.1 ho).1
    have hip : i < p := by
      rcases Nat.lt_or_ge i p with h | h
      · exact h
      · exact absurd (fun q hq => h3.ready ho hall (hsh.tail i q h hlt (by omega))) hallp
    have hslot : slotOf ops i = o.dst := by unfold slotOf; rw [ho]; rfl
    have hfal : L.getD i false = false := by rw [getD_both (by omega)]; exact h0
    have hlook : ∀ t, t ∈ o.looksAt ops → (fillS ops f st (fun i => L.getD i false) p).at t = (fillS ops f st (fun _ => true) i).at t := by
      intro t hmem
      have e1 : fillS ops f st (fun _ => true) i = fillS ops f st (fun j => decide (j < i)) i := fillS_congr i (fun j hj => by simp [hj])
      have e2 : ∀ q, i ≤ q → fillS ops f st (fun j => decide (j < i)) q = fillS ops f st (fun j => decide (j < i)) i := by
        intro q
        induction q with
        | zero => intro h; rw [Nat.le_zero.1 h]
        | succ q ihq =>
          intro h
          rcases Nat.lt_or_ge q i with h' | h'
          · rw [show q + 1 = i by omega]
          · have : decide (q < i) = false := by simp; omega
            simp only [fillS, this, Bool.false_eq_true, if_false]
            exact ihq h'
      rw [e1, ← e2 p (by omega)]
      refine fillS_look p fun q hq hqt => ?_
      obtain ⟨g1, e, he, hb, rfl⟩ := hsh.reads i o hip ho q t hq hqt hmem
      rw [hall e he hb]; simp [g1]
    have hneeds : ∀ e ∈ o.after, Region.binds .any e = true → mv e.on ≤ j ∧ lo e.on ≤ j := fun e he hb => by
      have hon := hsh.back i o ho e he hb
      exact h1 e.on (by omega) (hall e he hb)
    have hlow := hp.low i o j hip ho hneeds
    have hset : ∀ q, (L.setIfInBounds i true).getD q false = (L.getD q false || q == i) := fun q => by
      by_cases hq : q = i
      · subst hq
        have : q < L.size := by omega
        simp [this]
      · rw [getD_set_ne false (Ne.symm hq)]; simp [hq]
    -- behind it
    have hnext : ∀ (j' : Nat) (env' : Env) (a' : Act) (w' : World) (v : Value), j' ≤ k → j ≤ j' → mv i ≤ j' → (∀ i', i' < p → i' ≠ i → L.getD i' false = false → mv i' = 0 ∨ j' < mv i') → env0.le env' → env.ext env' → Rel P w0 env' (σs j') w' → FInv P w0 fl (L.setIfInBounds i true) env' (σs j') w' → den env' (f i) = some v →
        a' = a.put o.dst v → wpAny P .any ops Q fuel (L.setIfInBounds i true) a' w' := by
      intro j' env' a' w' v hj' hjj hmi hun hle0 hext hr' hfi' hd ha'
      refine ih _ _ _ j' env' (by simp [hL]) ?_ hj' (fun i' hi' => ?_) (fun i' hi' hl => ?_) (fun i' hi' hl => ?_) (h3.set ho hall (by omega)) hle0 hr' hfi' ?_
      · have := (unlisted_set h0 ops.size).2 hlt; omega
      · rw [hset, hsuf i' hi']
        have : (i' == i) = false := by simp; omega
        rw [this]; rfl
      · rw [hset] at hl
        by_cases hq : i' = i
        · subst hq; exact ⟨hmi, by omega⟩
        · have hb : (i' == i) = false := by simpa using hq
          rw [hb, Bool.or_false] at hl
          have := h1 i' hi' hl
          exact ⟨by omega, by omega⟩
      · rw [hset] at hl
        by_cases hq : i' = i
        · subst hq; simp at hl
        · have hb : (i' == i) = false := by simpa using hq
          rw [hb, Bool.or_false] at hl
          exact hun i' hi' hq hl
      · have hfs := fillS_setp (ops := ops) (f := f) (st := st) (m := fun q => L.getD q false) (i := i) (p := p) (fun q d hq g1 g2 => hsh.slots q i d hq hip g1 g2) hfal p (Nat.le_refl _) hip
        rw [hslot] at hfs
        rw [fillS_congr (m' := fun q => L.getD q false || q == i) p (fun q _ => hset q), hfs, ha']
        exact putS_ok (hf.ext hext) hd
    unfold wpOp
    simp only [ho]
    cases hfli : fl i with
    | some nT =>
      obtain ⟨n, T⟩ := nT
      obtain ⟨_, g2, g3, ⟨o', ho', g4, g5⟩, s, g6⟩ := hp.flop i n T hfli
      rw [ho] at ho'; cases ho'
      have hw : Region.wanted o (yielded ops a.tmps) = true := by unfold Region.wanted; rw [g5]
      rw [if_pos hw]
      left
      obtain ⟨z, hz, hzr⟩ := szero_ok (env := env) g6
      have hzc := cellsS_den (ho0.le hle) hz
      have hrun : (execOp a.eval o).run P w = .ok (.value (.pointer (some ⟨w.heap.size, 0, none⟩))) (w.alloc (.cells z.cells T)) := by
        simp [execOp, g4, Instr.alloc, hzr, newVar, newRow]
      simp only [Oper.wp, hrun, Oper.upon]
      have hhole := hfi.off i n T hfli hfal
      have hbl : Below w.heap.size w (w.alloc (.cells z.cells T)) := ⟨rfl, rfl, rfl, by rw [World.size_alloc]; omega, fun k hk => heap_alloc_old w _ k hk⟩
      obtain ⟨r1, r2⟩ := (hr.world hbl).fill (b := w.heap.size) (hnx i n T hfli) hhole
      have hle0 : env0.le { env with blocks := fun m => if m = n then some (w.heap.size, 0) else env.blocks m } := by
        refine ⟨⟨hle.given, fun m x hx => r2.some m x (hle.some m x hx)⟩, hle.next, fun m hm => ?_⟩
        have := hfl0 i n T hfli
        have hne : m ≠ n := by omega
        simp only [hne, if_false]
        exact hle.same m hm
      have other : ∀ i' n' T', fl i' = some (n', T') → i' ≠ i → n' ≠ n := fun i' n' T' h hne e => by
        subst e
        exact hne (hp.flinj i' i n' T' T h hfli)
      refine hnext j _ _ _ (.pointer (some ⟨w.heap.size, 0, none⟩)) hj (Nat.le_refl _) (by omega) (fun i' hi' _ hl => h2 i' hi' hl) hle0 r2 r1 ?_ (by rw [g2]; simp [den]) rfl
      refine ⟨fun i' n' T' hi' hl => ?_, fun i' n' T' hi' hl => ?_, fun i1 i2 n1 n2 T1 T2 b1 b2 e1 e2 hne c1 c2 => ?_⟩
      · rw [hset] at hl
        by_cases hq : i' = i
        · subst hq; simp at hl
        · have hb : (i' == i) = false := by simpa using hq
          rw [hb, Bool.or_false] at hl
          simp only [other i' n' T' hi' hq, if_false]
          exact hfi.off i' n' T' hi' hl
      · by_cases hq : i' = i
        · subst hq
          rw [hfli] at hi'; cases hi'
          refine ⟨w.heap.size, s, z.cells.toList, by simp, by simp, fun hk => ?_, g6, denL_ext r2 _ _ hzc, by rw [Array.toArray_toList]; exact heap_alloc_new w _, fun m o' x hm hx e => ?_⟩
          · have := (hr.below.block _ hk).1
            have := hr.below.size
            omega
          · obtain ⟨b', c', q1, q2, q3⟩ := hr.obj m o' hm
            have hmn : m ≠ n := fun e' => by subst e'; rw [hhole] at q1; cases q1
            simp only [hmn, if_false] at hx
            rw [hx] at q1; cases q1
            have := q3.lt
            omega
        · rw [hset] at hl
          have hb : (i' == i) = false := by simpa using hq
          rw [hb, Bool.or_false] at hl
          obtain ⟨b, s', vs, q1, q2, q3, q4, q5, q6, q7⟩ := hfi.on i' n' T' hi' hl
          refine ⟨b, s', vs, r2.some _ _ q1, by rw [World.size_alloc]; omega, q3, q4, denL_ext r2 _ _ q5, (heap_alloc_old w _ b q2).trans q6, fun m o' x hm hx => ?_⟩
          obtain ⟨b', c', p1, p2, p3⟩ := hr.obj m o' hm
          have hmn : m ≠ n := fun e' => by subst e'; rw [hhole] at p1; cases p1
          simp only [hmn, if_false] at hx
          exact q7 m o' x hm hx
      · have look : ∀ i' n' T' (b' : Nat × Nat), fl i' = some (n', T') → (if n' = n then some (w.heap.size, 0) else env.blocks n') = some b' → (i' = i ∧ b'.1 = w.heap.size) ∨ (i' ≠ i ∧ env.blocks n' = some b' ∧ b'.1 < w.heap.size) := fun i' n' T' b' hi' hb' => by
          by_cases hq : i' = i
          · subst hq
            rw [hfli] at hi'; cases hi'
            simp at hb'; subst hb'
            exact .inl ⟨rfl, rfl⟩
          · simp only [other i' n' T' hi' hq, if_false] at hb'
            refine .inr ⟨hq, hb', ?_⟩
            rcases hb2 i' n' T' hi' with hl | hl
            · obtain ⟨b, s', vs, q1, q2, _⟩ := hfi.on i' n' T' hi' hl
              rw [hb'] at q1; cases q1; exact q2
            · rw [hfi.off i' n' T' hi' hl] at hb'; cases hb'
        rcases look i1 n1 T1 b1 e1 c1 with ⟨a1, a2⟩ | ⟨a1, a2, a3⟩ <;> rcases look i2 n2 T2 b2 e2 c2 with ⟨d1, d2⟩ | ⟨d1, d2, d3⟩
        · exact absurd (a1.trans d1.symm) hne
        · omega
        · omega
        · exact hfi.apart i1 i2 n1 n2 T1 T2 b1 b2 e1 e2 hne a2 d2
    | none =>
    have finv' : ∀ {env' : Env} {σ' : SH} {w' : World}, FInv P w0 fl L env' σ' w' → FInv P w0 fl (L.setIfInBounds i true) env' σ' w' := fun {env' σ' w'} h => by
      have ne : ∀ i' n' T', fl i' = some (n', T') → i' ≠ i := fun i' n' T' h e => by subst e; rw [hfli] at h; cases h
      refine ⟨fun i' n' T' hi' hl => h.off i' n' T' hi' ?_, fun i' n' T' hi' hl => h.on i' n' T' hi' ?_, h.apart⟩
      all_goals
        rw [hset] at hl
        have hb : (i' == i) = false := by simpa using ne i' n' T' hi'
        rw [hb, Bool.or_false] at hl
        exact hl
    have hbase := hr.rebase hfi hb2
    rcases hp.each i o hip ho hfli with ⟨g1, g2, g3⟩ | ⟨g1, g2⟩
    · rw [← wantS_cong hlook] at g1
      rw [wantS_ok g1 hf]
      simp only [Bool.false_eq_true, if_false]
      exact hnext j env _ w undef hj (Nat.le_refl _) (by omega) (fun i' hi' _ hl => h2 i' hi' hl) hle (Env.le_refl _).toext hr (finv' hfi) (by rw [g2]; simp only [den]) rfl
    · rw [← wantS_cong hlook] at g1
      rw [wantS_ok g1 hf]
      simp only [if_true]
      left
      rcases g2 with ⟨m0, hst⟩ | ⟨m1, m2, hmov⟩
      · have hs := hst j hj hlow (fun q hq1 hq2 hn => by
          have hqp : q < p := by
            rcases Nat.lt_or_ge q p with h | h
            · exact h
            · have := hp.out q h; omega
          have hpl : L.getD q false = true := by
            cases hx : L.getD q false with
            | true => rfl
            | false => rcases h2 q hqp hx with h | h <;> omega
          have := h3.needs hn hpl
          rw [hfal] at this; cases this)
        rw [← hcong ops _ _ o _ hlook] at hs
        obtain ⟨env', v, w', hrun, hle', hrel, hd⟩ := hop _ _ o _ _ env a w hs (ho0.le hle) hbase hf
        have go : ∀ v', den env' (f i) = some v' → wpAny P .any ops Q fuel (L.setIfInBounds i true) (a.put o.dst v') w' := fun v' hv' =>
          hnext j env' _ w' v' hj (Nat.le_refl _) (by omega) (fun i' hi' _ hl => h2 i' hi' hl) (hle.trans' hle') hle'.toext (hr.unbase hle'.given hrel) (finv' (hfi.step hnx hle' hrel)) hv' rfl
        rcases hrun with hrun | ⟨hrun, rfl⟩
        · simp only [Oper.wp, hrun, Oper.upon]; exact go v hd
        · simp only [Oper.wp, hrun, Oper.upon]; exact go _ hd
      · have hjm : j = mv i - 1 := by
          have hlt2 : j < mv i := by rcases h2 i hip hfal with h | h <;> omega
          rcases Nat.lt_or_ge (mv i) 2 with h | h
          · omega
          · obtain ⟨e, he, hb, hee⟩ := hp.chain i o hip ho h
            have := hneeds e he hb
            omega
        have hun : ∀ i', i' < p → i' ≠ i → L.getD i' false = false → mv i' = 0 ∨ mv i < mv i' := fun i' hi' hne hl => by
          rcases h2 i' hi' hl with h | h
          · exact .inl h
          · right
            have : mv i' ≠ mv i := fun e => hne (hp.inj i' i (by omega) e)
            omega
        rcases hmov with hs | ⟨g, args, σ', hs, hc⟩
        · rw [← hjm, ← hcong ops _ _ o _ hlook] at hs
          obtain ⟨env', v, w', hrun, hle', hrel, hd⟩ := hop _ _ o _ _ env a w hs (ho0.le hle) hbase hf
          have go : ∀ v', den env' (f i) = some v' → wpAny P .any ops Q fuel (L.setIfInBounds i true) (a.put o.dst v') w' := fun v' hv' =>
            hnext (mv i) env' _ w' v' m2 (by omega) (Nat.le_refl _) hun (hle.trans' hle') hle'.toext (hr.unbase hle'.given hrel) (finv' (hfi.step hnx hle' hrel)) hv' rfl
          rcases hrun with hrun | ⟨hrun, rfl⟩
          · simp only [Oper.wp, hrun, Oper.upon]; exact go v hd
          · simp only [Oper.wp, hrun, Oper.upon]; exact go _ hd
        · rw [← hjm, ← hcong ops _ _ o _ hlook] at hs
          obtain ⟨vs, w', hrun, hrel, hd⟩ := hop _ _ o _ _ env a w hs (ho0.le hle) hbase hf
          simp only [Oper.wp, hrun, Oper.upon]
          refine Calls.mono (hcall _ g args σ' _ env w' vs hc (ho0.le hle) hrel hd) ?_
          rintro e w'' ⟨x, hx, env', v, rfl, hle', hrel', hdv⟩
          obtain rfl := List.mem_singleton.1 hx
          exact hnext (mv i) env' _ w'' v m2 (by omega) (Nat.le_refl _) hun (hle.trans' hle') hle'.toext (hr.unbase hle'.given hrel') (finv' (hfi.step hnx hle' hrel')) hdv rfl
end Go.Proofs.YtdkindollljlnabGreatDoor

namespace Go.Proofs.YtdkindollljlnabGreatDoor
open Go Go.RowKit

variable {P : Program}

def eqCap : SCap → SCap → Bool
  | .lit a, .lit b => a == b
  | .rest a, .rest b => a == b
  | _, _ => false
theorem eqCap_ok {a b : SCap} (h : eqCap a b = true) : a = b := by
  cases a <;> cases b <;> simp only [eqCap, Bool.false_eq_true, beq_iff_eq] at h <;> first | (subst h; rfl) | cases h
mutual
def eqS : SV → SV → Bool
  | .int k n, .int k' n' => decide (k = k') && decide (n = n')
  | .bool a, .bool b => a == b
  | .str a, .str b => a == b
  | .undef, .undef => true
  | .nilp, .nilp => true
  | .ptr n o, .ptr n' o' => n == n' && o == o'
  | .gptr n o, .gptr n' o' => n == n' && o == o'
  | .slice n o l c, .slice n' o' l' c' => n == n' && o == o' && l == l' && eqCap c c'
  | .nils, .nils => true
  | .zslice n o a z d, .zslice n' o' a' z' d' => n == n' && o == o' && a == a' && z == z' && d == d'
  | .map n, .map n' => n == n'
  | .nilm, .nilm => true
  | .fn f a b, .fn f' a' b' => decide (f = f') && eqSL a a' && eqSL b b'
  | .nilf, .nilf => true
  | .iface t v, .iface t' v' => t == t' && eqS v v'
  | .nili, .nili => true
  | .agg a, .agg b => eqSL a b
  | .tuple a, .tuple b => eqSL a b
  | .opq i, .opq j => i == j
  | _, _ => false
def eqSL : List SV → List SV → Bool
  | [], [] => true
  | a :: r, b :: s => eqS a b && eqSL r s
  | _, _ => false
end
mutual
theorem eqS_ok : ∀ (a b : SV), eqS a b = true → a = b
  | .int k n, b, h => by cases b <;> simp only [eqS, Bool.false_eq_true, Bool.and_eq_true, decide_eq_true_eq] at h <;> (obtain ⟨rfl, rfl⟩ := h; rfl)
  | .bool a, b, h => by cases b <;> simp only [eqS, Bool.false_eq_true, beq_iff_eq] at h <;> (subst h; rfl)
  | .str a, b, h => by cases b <;> simp only [eqS, Bool.false_eq_true, beq_iff_eq] at h <;> (subst h; rfl)
  | .undef, b, h => by cases b <;> simp only [eqS, Bool.false_eq_true] at h <;> rfl
  | .nilp, b, h => by cases b <;> simp only [eqS, Bool.false_eq_true] at h <;> rfl
  | .ptr n o, b, h => by cases b <;> simp only [eqS, Bool.false_eq_true, Bool.and_eq_true, beq_iff_eq] at h <;> (obtain ⟨rfl, rfl⟩ := h; rfl)
  | .gptr n o, b, h => by cases b <;> simp only [eqS, Bool.false_eq_true, Bool.and_eq_true, beq_iff_eq] at h <;> (obtain ⟨rfl, rfl⟩ := h; rfl)
  | .slice n o l c, b, h => by
    cases b <;> simp only [eqS, Bool.false_eq_true, Bool.and_eq_true, beq_iff_eq] at h
    rename_i n' o' l' c'
    rcases h with ⟨⟨⟨rfl, rfl⟩, rfl⟩, h⟩
    rw [eqCap_ok h]
  | .nils, b, h => by cases b <;> simp only [eqS, Bool.false_eq_true] at h <;> rfl
  | .num _ _ _, b, h => by cases b <;> simp only [eqS, Bool.false_eq_true] at h
  | .zslice n o a z d, b, h => by
    cases b <;> simp only [eqS, Bool.false_eq_true, Bool.and_eq_true, beq_iff_eq] at h
    obtain ⟨⟨⟨⟨rfl, rfl⟩, rfl⟩, rfl⟩, rfl⟩ := h
    rfl
  | .map n, b, h => by cases b <;> simp only [eqS, Bool.false_eq_true, beq_iff_eq] at h <;> (subst h; rfl)
  | .nilm, b, h => by cases b <;> simp only [eqS, Bool.false_eq_true] at h <;> rfl
  | .fn f x y, b, h => by
    cases b <;> simp only [eqS, Bool.false_eq_true, Bool.and_eq_true, decide_eq_true_eq] at h
    rcases h with ⟨⟨rfl, h1⟩, h2⟩
    rw [eqSL_ok x _ h1, eqSL_ok y _ h2]
  | .nilf, b, h => by cases b <;> simp only [eqS, Bool.false_eq_true] at h <;> rfl
  | .iface t v, b, h => by
    cases b <;> simp only [eqS, Bool.false_eq_true, Bool.and_eq_true, beq_iff_eq] at h
    rcases h with ⟨rfl, h2⟩
    rw [eqS_ok v _ h2]
  | .nili, b, h => by cases b <;> simp only [eqS, Bool.false_eq_true] at h <;> rfl
  | .agg x, b, h => by
    cases b <;> simp only [eqS, Bool.false_eq_true] at h
    rw [eqSL_ok x _ h]
  | .tuple x, b, h => by
    cases b <;> simp only [eqS, Bool.false_eq_true] at h
    rw [eqSL_ok x _ h]
  | .opq n, b, h => by cases b <;> simp only [eqS, Bool.false_eq_true, beq_iff_eq] at h <;> (subst h; rfl)
theorem eqSL_ok : ∀ (a b : List SV), eqSL a b = true → a = b
  | [], b, h => by cases b <;> simp only [eqSL, Bool.false_eq_true] at h <;> rfl
  | x :: r, b, h => by
    cases b <;> simp only [eqSL, Bool.false_eq_true, Bool.and_eq_true] at h
    rw [eqS_ok x _ h.1, eqSL_ok r _ h.2]
end

/-- Operations look at their operands alone. -/
theorem evalS_cong {st st' : Row} {x : Operand} (h : ∀ t, x = .tmp t → st.at t = st'.at t) : evalS st x = evalS st' x := by
  cases x with
  | tmp t => simp only [evalS, h t rfl]
  | _ => rfl
theorem evalL_cong {st st' : Row} : ∀ {xs : List Operand}, (∀ x ∈ xs, evalS st x = evalS st' x) → evalL st xs = evalL st' xs := by
  intro xs
  induction xs with
  | nil => intro _; rfl
  | cons x r ih => intro h; simp only [evalL]; rw [h x (by simp), ih (fun y hy => h y (by simp [hy]))]
theorem intO_cong {st st' : Row} {x : Option Operand} (h : ∀ y ∈ x.toList, evalS st y = evalS st' y) : intO st x = intO st' x := by
  cases x with
  | none => rfl
  | some y => simp only [intO]; rw [h y (by simp)]
theorem sCallOp_cong {st st' : Row} {c : Call} {σ : SH} (h : ∀ x ∈ c.operands, evalS st x = evalS st' x) : sCallOp P st c σ = sCallOp P st' c σ := by
  obtain ⟨callee, args, tys⟩ := c
  have ha : ∀ x ∈ args.toList, evalS st x = evalS st' x := fun x hx => h x (by simp [Call.operands, Array.mem_toList_iff.1 hx])
  unfold sCallOp
  simp only
  split
  · split
    · rename_i x T h1 h2; rw [ha x (by rw [h1]; simp)]
    · rfl
  · split
    · rename_i x T h1 h2; rw [ha x (by rw [h1]; simp)]
    · rfl
  · split
    · rename_i x y T T' h1 h2; rw [ha x (by rw [h1]; simp), ha y (by rw [h1]; simp)]
    · rfl
  · split
    · rename_i x y T T' h1 h2; rw [ha x (by rw [h1]; simp), ha y (by rw [h1]; simp)]
    · rfl
  · split
    · rename_i x y h1; rw [ha x (by rw [h1]; simp), ha y (by rw [h1]; simp)]
    · rfl
  · split
    · rename_i x y h1; rw [ha x (by rw [h1]; simp), ha y (by rw [h1]; simp)]
    · rfl
  · rename_i f
    rw [h f (by simp [Call.operands]), evalL_cong ha]
  · rename_i f name
    rw [h f (by simp [Call.operands]), evalL_cong ha]
  · rfl
theorem sOp_cong : OpCong (sOp P) := by
  intro ops st st' o σ h
  have E : ∀ x ∈ o.op.operands, evalS st x = evalS st' x := fun x hx => evalS_cong fun t ht => h t (by
    subst ht
    exact List.mem_append_left _ (List.mem_filterMap.2 ⟨.tmp t, by simpa using hx, rfl⟩))
  obtain ⟨d, op, ty, pos, af, g⟩ := o
  simp only at E
  unfold sOp
  cases op <;> simp only
  case move x => rw [E x (by simp [Op.operands])]
  case assign x => rw [E x (by simp [Op.operands])]
  case pick c x y => rw [E c (by simp [Op.operands]), E x (by simp [Op.operands]), E y (by simp [Op.operands])]
  case box T x => rw [E x (by simp [Op.operands])]
  case build T ps => rw [evalL_cong fun x hx => E x (by simpa [Op.operands] using hx)]
  case buildSlice T n ps => rw [evalL_cong fun x hx => E x (by simpa [Op.operands] using hx)]
  case load T x => rw [E x (by simp [Op.operands])]
  case store T x y => rw [E x (by simp [Op.operands]), E y (by simp [Op.operands])]
  case nilCheck x => rw [E x (by simp [Op.operands])]
  case binOp op T x y B => rw [E x (by simp [Op.operands]), E y (by simp [Op.operands])]
  case unOp op T x => rw [E x (by simp [Op.operands])]
  case convert S D x => rw [E x (by simp [Op.operands])]
  case makeInterface T x => rw [E x (by simp [Op.operands])]
  case makeFunc f xs ys => rw [evalL_cong fun x hx => E x (by simp [Op.operands, Array.mem_toList_iff.1 hx]), evalL_cong fun x hx => E x (by simp [Op.operands, Array.mem_toList_iff.1 hx])]
  case slice T x lo hi mx =>
    rw [E x (by simp [Op.operands]), intO_cong fun y hy => E y (by simp only [Option.mem_toList, Option.mem_def] at hy; subst hy; simp [Op.operands]), intO_cong fun y hy => E y (by simp only [Option.mem_toList, Option.mem_def] at hy; subst hy; simp [Op.operands]), intO_cong fun y hy => E y (by simp only [Option.mem_toList, Option.mem_def] at hy; subst hy; simp [Op.operands])]
  case makeMap T r0 => cases r0 <;> rfl
  case fieldAddr S x f => rw [E x (by simp [Op.operands])]
  case field S x f => rw [E x (by simp [Op.operands])]
  case indexAddr T x i => rw [E x (by simp [Op.operands]), E i (by simp [Op.operands])]
  case index T x i => rw [E x (by simp [Op.operands]), E i (by simp [Op.operands])]
  case extract x i => rw [E x (by simp [Op.operands])]
  case makeSlice T x y => rw [E x (by simp [Op.operands]), E y (by simp [Op.operands])]
  case typeAssert x X A ok => rw [E x (by simp [Op.operands])]
  case lookup T x k ok => rw [E x (by simp [Op.operands]), E k (by simp [Op.operands])]
  case mapUpdate T x k v => rw [E x (by simp [Op.operands]), E k (by simp [Op.operands]), E v (by simp [Op.operands])]
  case range T x => rw [E x (by simp [Op.operands])]
  case next x b => rw [E x (by simp [Op.operands])]
  case entry x => rw [E x (by simp [Op.operands])]
  case sliceToArrayPointer T x => rw [E x (by simp [Op.operands])]
  case call c => exact sCallOp_cong fun x hx => E x (by simpa [Op.operands] using hx)

/-- Operations that leave the heap alone. -/
def stillOp (P : Program) : Op → Bool
  | .convert _ D _ => match P.underlying D with
    | some (.int _) | some .string => true
    | _ => false
  | .move _ | .assign _ | .pick _ _ _ | .load _ _ | .nilCheck _ | .binOp _ _ _ _ _ | .unOp _ _ _ | .fieldAddr _ _ _ | .field _ _ _ | .indexAddr _ _ _ | .index _ _ _ | .extract _ _ | .makeInterface _ _ | .makeFunc _ _ _ | .build _ _ | .slice _ _ _ _ _ | .typeAssert _ _ _ _ | .lookup _ _ _ _ | .entry _ | .sliceToArrayPointer _ _ => true
  | .call c => match c.callee with
    | .builtin .len | .builtin .cap | .builtin .min | .builtin .max => true
    | _ => false
  | _ => false
/-- Operations that do not look at the heap. -/
def pureOp : Op → Bool
  | .move _ | .assign _ | .pick _ _ _ | .nilCheck _ | .binOp _ _ _ _ _ | .unOp _ _ _ | .fieldAddr _ _ _ | .field _ _ _ | .indexAddr _ _ _ | .index _ _ _ | .extract _ _ | .makeInterface _ _ | .makeFunc _ _ _ | .build _ _ | .sliceToArrayPointer _ _ => true
  | _ => false
end Go.Proofs.YtdkindollljlnabGreatDoor

namespace Go.Proofs.YtdkindollljlnabGreatDoor
open Go Go.RowKit
variable [Known]

variable {P : Program} {w0 : Base}

/-- The heap ahead of the m-th move: a block that was made early comes into it. -/
noncomputable def landS (lz : Nat → Option (Nat × Nat × TypeId × SV)) (m : Nat) (σ : SH) : SH := match lz m with
  | some (_, n, T, s) => σ.put n (some (.cells (cellsS s) T true))
  | none => σ
/-- The blocks that were made early and have not landed behind j moves. -/
def flJ (fl : Nat → Option (Nat × TypeId)) (lm : Nat → Nat) (j i : Nat) : Option (Nat × TypeId) := if lm i = 0 ∨ j < lm i then fl i else none
theorem flJ_some {fl : Nat → Option (Nat × TypeId)} {lm : Nat → Nat} {j i : Nat} {x : Nat × TypeId} (h : flJ fl lm j i = some x) : fl i = some x ∧ (lm i = 0 ∨ j < lm i) := by
  unfold flJ at h
  split at h
  · rename_i hc; exact ⟨h, hc⟩
  · cases h
theorem flJ_mk {fl : Nat → Option (Nat × TypeId)} {lm : Nat → Nat} {j i : Nat} {x : Nat × TypeId} (h : fl i = some x) (hc : lm i = 0 ∨ j < lm i) : flJ fl lm j i = some x := by
  unfold flJ; rw [if_pos hc]; exact h

/-- What a plan of the first part keeps. -/
structure Plan2 (P : Program) (op : OpF) (call : CallF) (ops : Array Oper) (p : Nat) (st : Row) (f : Nat → SV) (lo mv : Nat → Nat) (σs : Nat → SH) (k : Nat) (fl : Nat → Option (Nat × TypeId)) (lm : Nat → Nat) (lz : Nat → Option (Nat × Nat × TypeId × SV)) : Prop where
  shape : Shape ops p
  each : ∀ i o, i < p → ops[i]? = some o → fl i = none →
    (wantS ops o (fillS ops f st (fun _ => true) i) = some false ∧ f i = .undef ∧ mv i = 0) ∨
    (wantS ops o (fillS ops f st (fun _ => true) i) = some true ∧
      ((mv i = 0 ∧ ∀ j ≤ k, lo i ≤ j → (∀ q, 1 ≤ mv q → mv q ≤ j → ¬ Needs ops q i) → op (fillS ops f st (fun _ => true) i) o (σs j) = some (.val (f i) (σs j))) ∨
       (1 ≤ mv i ∧ mv i ≤ k ∧ (op (fillS ops f st (fun _ => true) i) o (landS lz (mv i) (σs (mv i - 1))) = some (.val (f i) (σs (mv i))) ∨
          ∃ g args σ', op (fillS ops f st (fun _ => true) i) o (landS lz (mv i) (σs (mv i - 1))) = some (.enter g args σ') ∧ call g args σ' = some [(f i, σs (mv i))]))))
  flop : ∀ i n T, fl i = some (n, T) → i < p ∧ f i = .ptr n 0 ∧ mv i = 0 ∧ (∃ o, ops[i]? = some o ∧ o.op = .alloc T ∧ o.guard = none) ∧ ∃ s, szero P T = some s
  flinj : ∀ i i' n T T', fl i = some (n, T) → fl i' = some (n, T') → i = i'
  flnx : ∀ i n T j, fl i = some (n, T) → j ≤ k → n < (σs j).next
  low : ∀ i o j, i < p → ops[i]? = some o → (∀ e ∈ o.after, Region.binds .any e = true → mv e.on ≤ j ∧ lo e.on ≤ j) → lo i ≤ j
  chain : ∀ i o, i < p → ops[i]? = some o → 2 ≤ mv i → ∃ e ∈ o.after, Region.binds .any e = true ∧ (mv i - 1 ≤ mv e.on ∨ mv i - 1 ≤ lo e.on)
  inj : ∀ i i', 1 ≤ mv i → mv i = mv i' → i = i'
  out : ∀ i, p ≤ i → mv i = 0
  top : k = 0 ∨ ∃ i, i < p ∧ mv i = k
  /-- what lands, and where -/
  lands : ∀ m i n T s, lz m = some (i, n, T, s) → fl i = some (n, T) ∧ szero P T = some s ∧ lm i = m
  landed : ∀ i n T, fl i = some (n, T) → 1 ≤ lm i → (∃ s, lz (lm i) = some (i, n, T, s)) ∧ lm i ≤ k ∧ ∃ q, q < p ∧ mv q = lm i ∧ Needs ops q i

theorem plan_any2 {op : OpF} {call : CallF} (hop : ∀ b, OpSound P b op) (hcong : OpCong op) (hcall : ∀ b, CallSound P b call) {ops : Array Oper} {p : Nat} {st : Row} {f : Nat → SV} {lo mv : Nat → Nat} {σs : Nat → SH} {k : Nat} {fl : Nat → Option (Nat × TypeId)} {lm : Nat → Nat} {lz : Nat → Option (Nat × Nat × TypeId × SV)}
    (hp : Plan2 P op call ops p st f lo mv σs k fl lm lz) {env0 : Env} (ho0 : env0.ones) (hfl0 : ∀ i n T, fl i = some (n, T) → env0.next ≤ n) {Q : Exit → Act → World → Prop}
    (hQ : ∀ L env a w, L.size = ops.size → (∀ i, i < p → L.getD i false = true) → env0.le env → Rel P w0 env (σs k) w → FInv P w0 (flJ fl lm k) L env (σs k) w → FRel env (fillS ops f st (fun _ => true) p) a → wpList P ops Q (ops.toList.drop p) a w) :
    ∀ (fuel : Nat) (L : Array Bool) (a : Act) (w : World) (j : Nat) (env : Env), L.size = ops.size → unlisted L ops.size ≤ fuel → j ≤ k →
      (∀ i, p ≤ i → L.getD i false = false) →
      (∀ i, i < p → L.getD i false = true → mv i ≤ j ∧ lo i ≤ j) → (∀ i, i < p → L.getD i false = false → mv i = 0 ∨ j < mv i) →
      Closed ops L → env0.le env → Rel P w0 env (σs j) w → FInv P w0 (flJ fl lm j) L env (σs j) w → FRel env (fillS ops f st (fun i => L.getD i false) p) a →
      wpAny P .any ops Q fuel L a w := by
  have hsh := hp.shape
  -- the first part is over
  have hend : ∀ (fuel : Nat) (L : Array Bool) (a : Act) (w : World) (j : Nat) (env : Env), L.size = ops.size → unlisted L ops.size ≤ fuel → j ≤ k → (∀ i, p ≤ i → L.getD i false = false) → (∀ i, i < p → L.getD i false = true → mv i ≤ j ∧ lo i ≤ j) → env0.le env → Rel P w0 env (σs j) w → FInv P w0 (flJ fl lm j) L env (σs j) w →
      FRel env (fillS ops f st (fun i => L.getD i false) p) a → (∀ i, i < p → L.getD i false = true) → wpAny P .any ops Q fuel L a w := by
    intro fuel L a w j env hL hu hj hsuf h1 hle hr hfi hf hall
    have hjk : j = k := by
      rcases hp.top with h | ⟨i, hi, h⟩
      · omega
      · have := (h1 i hi (hall i hi)).1; omega
    subst hjk
    have hcnt : ops.size - p ≤ unlisted L ops.size := by
      have key : ∀ n, n ≤ ops.size → n - p ≤ unlisted L n := by
        intro n
        induction n with
        | zero => intro _; omega
        | succ n ihn =>
          intro hn
          have := ihn (by omega)
          simp only [unlisted]
          by_cases hpn : p ≤ n
          · have hf := hsuf n hpn
            rw [getD_both (by omega)] at hf
            rw [hf]
            simp; omega
          · omega
      exact key _ (Nat.le_refl _)
    refine seq_any hsh fuel p L a w hL (by omega) (Nat.le_refl _) hsh.le (fun i hi => ?_) (hQ L env a w hL hall hle hr hfi ?_)
    · by_cases hip : i < p
      · rw [hall i hip]; simp [hip]
      · rw [hsuf i (by omega)]; simp [hip]
    · rw [fillS_congr (m' := fun _ => true) p hall] at hf
      exact hf
  intro fuel
  induction fuel with
  | zero =>
    intro L a w j env hL hu hj hsuf h1 h2 h3 hle hr hfi hf
    refine hend 0 L a w j env hL hu hj hsuf h1 hle hr hfi hf fun i hi => ?_
    have := unlisted_zero (L := L) ops.size (by omega) i (by have := hsh.le; omega)
    rw [getD_both (by have := hsh.le; omega)]; exact this
  | succ fuel ih =>
    intro L a w j env hL hu hj hsuf h1 h2 h3 hle hr hfi hf
    by_cases hallp : ∀ i, i < p → L.getD i false = true
    · exact hend (fuel + 1) L a w j env hL hu hj hsuf h1 hle hr hfi hf hallp
    have hnx : ∀ i n T, fl i = some (n, T) → n < env.next := fun i n T hi => by rw [hr.nx]; exact hp.flnx i n T j hi hj
    have hnxj : ∀ i n T, flJ fl lm j i = some (n, T) → n < env.next := fun i n T hi => hnx i n T (flJ_some hi).1
    have hb2 : ∀ i n T, flJ fl lm j i = some (n, T) → L.getD i false = true ∨ L.getD i false = false := fun i _ _ _ => by cases L.getD i false <;> simp
    refine ⟨fun hrd => ?_, fun i hi => ?_⟩
    · exact absurd (fun i hi => shape_listed hsh hL hrd i (by have := hsh.le; omega)) hallp
    obtain ⟨h0, o, ho, hall⟩ := mem_ready.1 hi
    have hlt : i < ops.size := (Array.getElem?_eq_some_iff.1 ho).1
    have hip : i < p := by
      rcases Nat.lt_or_ge i p with h | h
      · exact h
      · exact absurd (fun q hq => h3.ready ho hall (hsh.tail i q h hlt (by omega))) hallp
    have hslot : slotOf ops i = o.dst := by unfold slotOf; rw [ho]; rfl
    have hfal : L.getD i false = false := by rw [getD_both (by omega)]; exact h0
    have hlook : ∀ t, t ∈ o.looksAt ops → (fillS ops f st (fun i => L.getD i false) p).at t = (fillS ops f st (fun _ => true) i).at t := by
      intro t hmem
      have e1 : fillS ops f st (fun _ => true) i = fillS ops f st (fun j => decide (j < i)) i := fillS_congr i (fun j hj => by simp [hj])
      have e2 : ∀ q, i ≤ q → fillS ops f st (fun j => decide (j < i)) q = fillS ops f st (fun j => decide (j < i)) i := by
        intro q
        induction q with
        | zero => intro h; rw [Nat.le_zero.1 h]
        | succ q ihq =>
          intro h
          rcases Nat.lt_or_ge q i with h' | h'
          · rw [show q + 1 = i by omega]
          · have : decide (q < i) = false := by simp; omega
            simp only [fillS, this, Bool.false_eq_true, if_false]
            exact ihq h'
      rw [e1, ← e2 p (by omega)]
      refine fillS_look p fun q hq hqt => ?_
      obtain ⟨g1, e, he, hb, rfl⟩ := hsh.reads i o hip ho q t hq hqt hmem
      rw [hall e he hb]; simp [g1]
    have hneeds : ∀ e ∈ o.after, Region.binds .any e = true → mv e.on ≤ j ∧ lo e.on ≤ j := fun e he hb => by
      have hon := hsh.back i o ho e he hb
      exact h1 e.on (by omega) (hall e he hb)
    have hlow := hp.low i o j hip ho hneeds
    have hset : ∀ q, (L.setIfInBounds i true).getD q false = (L.getD q false || q == i) := fun q => by
      by_cases hq : q = i
      · subst hq
        have : q < L.size := by omega
        simp [this]
      · rw [getD_set_ne false (Ne.symm hq)]; simp [hq]
    -- behind it
    have hnext : ∀ (j' : Nat) (env' : Env) (a' : Act) (w' : World) (v : Value), j' ≤ k → j ≤ j' → mv i ≤ j' → (∀ i', i' < p → i' ≠ i → L.getD i' false = false → mv i' = 0 ∨ j' < mv i') → env0.le env' → env.ext env' → Rel P w0 env' (σs j') w' → FInv P w0 (flJ fl lm j') (L.setIfInBounds i true) env' (σs j') w' → den env' (f i) = some v →
        a' = a.put o.dst v → wpAny P .any ops Q fuel (L.setIfInBounds i true) a' w' := by
      intro j' env' a' w' v hj' hjj hmi hun hle0 hext hr' hfi' hd ha'
      refine ih _ _ _ j' env' (by simp [hL]) ?_ hj' (fun i' hi' => ?_) (fun i' hi' hl => ?_) (fun i' hi' hl => ?_) (h3.set ho hall (by omega)) hle0 hr' hfi' ?_
      · have := (unlisted_set h0 ops.size).2 hlt; omega
      · rw [hset, hsuf i' hi']
        have : (i' == i) = false := by simp; omega
        rw [this]; rfl
      · rw [hset] at hl
        by_cases hq : i' = i
        · subst hq; exact ⟨hmi, by omega⟩
        · have hb : (i' == i) = false := by simpa using hq
          rw [hb, Bool.or_false] at hl
          have := h1 i' hi' hl
          exact ⟨by omega, by omega⟩
      · rw [hset] at hl
        by_cases hq : i' = i
        · subst hq; simp at hl
        · have hb : (i' == i) = false := by simpa using hq
          rw [hb, Bool.or_false] at hl
          exact hun i' hi' hq hl
      · have hfs := fillS_setp (ops := ops) (f := f) (st := st) (m := fun q => L.getD q false) (i := i) (p := p) (fun q d hq g1 g2 => hsh.slots q i d hq hip g1 g2) hfal p (Nat.le_refl _) hip
        rw [hslot] at hfs
        rw [fillS_congr (m' := fun q => L.getD q false || q == i) p (fun q _ => hset q), hfs, ha']
        exact putS_ok (hf.ext hext) hd
    unfold wpOp
    simp only [ho]
    cases hfli : fl i with
    | some nT =>
      obtain ⟨n, T⟩ := nT
      obtain ⟨_, g2, g3, ⟨o', ho', g4, g5⟩, s, g6⟩ := hp.flop i n T hfli
      rw [ho] at ho'; cases ho'
      have hw : Region.wanted o (yielded ops a.tmps) = true := by unfold Region.wanted; rw [g5]
      rw [if_pos hw]
      left
      obtain ⟨z, hz, hzr⟩ := szero_ok (env := env) g6
      have hzc := cellsS_den (ho0.le hle) hz
      have hrun : (execOp a.eval o).run P w = .ok (.value (.pointer (some ⟨w.heap.size, 0, none⟩))) (w.alloc (.cells z.cells T)) := by
        simp [execOp, g4, Instr.alloc, hzr, newVar, newRow]
      simp only [Oper.wp, hrun, Oper.upon]
      have hflj : flJ fl lm j i = some (n, T) := by
        refine flJ_mk hfli ?_
        rcases Nat.eq_zero_or_pos (lm i) with h | h
        · exact .inl h
        · right
          obtain ⟨_, _, q, hq, hmq, hn⟩ := hp.landed i n T hfli h
          rcases Nat.lt_or_ge j (lm i) with h' | h'
          · exact h'
          · have hql : L.getD q false = true := by
              cases hx : L.getD q false with
              | true => rfl
              | false => rcases h2 q hq hx with h'' | h'' <;> omega
            have := h3.needs hn hql
            rw [hfal] at this; cases this
      have hhole := hfi.off i n T hflj hfal
      have hbl : Below w.heap.size w (w.alloc (.cells z.cells T)) := ⟨rfl, rfl, rfl, by rw [World.size_alloc]; omega, fun k hk => heap_alloc_old w _ k hk⟩
      obtain ⟨r1, r2⟩ := (hr.world hbl).fill (b := w.heap.size) (hnx i n T hfli) hhole
      have hle0 : env0.le { env with blocks := fun m => if m = n then some (w.heap.size, 0) else env.blocks m } := by
        refine ⟨⟨hle.given, fun m x hx => r2.some m x (hle.some m x hx)⟩, hle.next, fun m hm => ?_⟩
        have := hfl0 i n T hfli
        have hne : m ≠ n := by omega
        simp only [hne, if_false]
        exact hle.same m hm
      have other : ∀ i' n' T', flJ fl lm j i' = some (n', T') → i' ≠ i → n' ≠ n := fun i' n' T' h hne e => by
        subst e
        exact hne (hp.flinj i' i n' T' T (flJ_some h).1 hfli)
      refine hnext j _ _ _ (.pointer (some ⟨w.heap.size, 0, none⟩)) hj (Nat.le_refl _) (by omega) (fun i' hi' _ hl => h2 i' hi' hl) hle0 r2 r1 ?_ (by rw [g2]; simp [den]) rfl
      refine ⟨fun i' n' T' hi' hl => ?_, fun i' n' T' hi' hl => ?_, fun i1 i2 n1 n2 T1 T2 b1 b2 e1 e2 hne c1 c2 => ?_⟩
      · rw [hset] at hl
        by_cases hq : i' = i
        · subst hq; simp at hl
        · have hb : (i' == i) = false := by simpa using hq
          rw [hb, Bool.or_false] at hl
          simp only [other i' n' T' hi' hq, if_false]
          exact hfi.off i' n' T' hi' hl
      · by_cases hq : i' = i
        · subst hq
          rw [hflj] at hi'; cases hi'
          refine ⟨w.heap.size, s, z.cells.toList, by simp, by simp, fun hk => ?_, g6, denL_ext r2 _ _ hzc, by rw [Array.toArray_toList]; exact heap_alloc_new w _, fun m o' x hm hx e => ?_⟩
          · have := (hr.below.block _ hk).1
            have := hr.below.size
            omega
          · obtain ⟨b', c', q1, q2, q3⟩ := hr.obj m o' hm
            have hmn : m ≠ n := fun e' => by subst e'; rw [hhole] at q1; cases q1
            simp only [hmn, if_false] at hx
            rw [hx] at q1; cases q1
            have := q3.lt
            omega
        · rw [hset] at hl
          have hb : (i' == i) = false := by simpa using hq
          rw [hb, Bool.or_false] at hl
          obtain ⟨b, s', vs, q1, q2, q3, q4, q5, q6, q7⟩ := hfi.on i' n' T' hi' hl
          refine ⟨b, s', vs, r2.some _ _ q1, by rw [World.size_alloc]; omega, q3, q4, denL_ext r2 _ _ q5, (heap_alloc_old w _ b q2).trans q6, fun m o' x hm hx => ?_⟩
          obtain ⟨b', c', p1, p2, p3⟩ := hr.obj m o' hm
          have hmn : m ≠ n := fun e' => by subst e'; rw [hhole] at p1; cases p1
          simp only [hmn, if_false] at hx
          exact q7 m o' x hm hx
      · have look : ∀ i' n' T' (b' : Nat × Nat), flJ fl lm j i' = some (n', T') → (if n' = n then some (w.heap.size, 0) else env.blocks n') = some b' → (i' = i ∧ b'.1 = w.heap.size) ∨ (i' ≠ i ∧ env.blocks n' = some b' ∧ b'.1 < w.heap.size) := fun i' n' T' b' hi' hb' => by
          by_cases hq : i' = i
          · subst hq
            rw [hflj] at hi'; cases hi'
            simp at hb'; subst hb'
            exact .inl ⟨rfl, rfl⟩
          · simp only [other i' n' T' hi' hq, if_false] at hb'
            refine .inr ⟨hq, hb', ?_⟩
            rcases hb2 i' n' T' hi' with hl | hl
            · obtain ⟨b, s', vs, q1, q2, _⟩ := hfi.on i' n' T' hi' hl
              rw [hb'] at q1; cases q1; exact q2
            · rw [hfi.off i' n' T' hi' hl] at hb'; cases hb'
        rcases look i1 n1 T1 b1 e1 c1 with ⟨a1, a2⟩ | ⟨a1, a2, a3⟩ <;> rcases look i2 n2 T2 b2 e2 c2 with ⟨d1, d2⟩ | ⟨d1, d2, d3⟩
        · exact absurd (a1.trans d1.symm) hne
        · omega
        · omega
        · exact hfi.apart i1 i2 n1 n2 T1 T2 b1 b2 e1 e2 hne a2 d2
    | none =>
    have finv' : ∀ {jj : Nat} {env' : Env} {σ' : SH} {w' : World}, FInv P w0 (flJ fl lm jj) L env' σ' w' → FInv P w0 (flJ fl lm jj) (L.setIfInBounds i true) env' σ' w' := fun {jj env' σ' w'} h => by
      have ne : ∀ i' n' T', flJ fl lm jj i' = some (n', T') → i' ≠ i := fun i' n' T' h e => by subst e; have h' := (flJ_some h).1; rw [hfli] at h'; cases h'
      refine ⟨fun i' n' T' hi' hl => h.off i' n' T' hi' ?_, fun i' n' T' hi' hl => h.on i' n' T' hi' ?_, h.apart⟩
      all_goals
        rw [hset] at hl
        have hb : (i' == i) = false := by simpa using ne i' n' T' hi'
        rw [hb, Bool.or_false] at hl
        exact hl
    have hbase := hr.rebase hfi hb2
    rcases hp.each i o hip ho hfli with ⟨g1, g2, g3⟩ | ⟨g1, g2⟩
    · rw [← wantS_cong hlook] at g1
      rw [wantS_ok g1 hf]
      simp only [Bool.false_eq_true, if_false]
      exact hnext j env _ w undef hj (Nat.le_refl _) (by omega) (fun i' hi' _ hl => h2 i' hi' hl) hle (Env.le_refl _).toext hr (finv' hfi) (by rw [g2]; simp only [den]) rfl
    · rw [← wantS_cong hlook] at g1
      rw [wantS_ok g1 hf]
      simp only [if_true]
      left
      rcases g2 with ⟨m0, hst⟩ | ⟨m1, m2, hmov⟩
      · have hs := hst j hj hlow (fun q hq1 hq2 hn => by
          have hqp : q < p := by
            rcases Nat.lt_or_ge q p with h | h
            · exact h
            · have := hp.out q h; omega
          have hpl : L.getD q false = true := by
            cases hx : L.getD q false with
            | true => rfl
            | false => rcases h2 q hqp hx with h | h <;> omega
          have := h3.needs hn hpl
          rw [hfal] at this; cases this)
        rw [← hcong ops _ _ o _ hlook] at hs
        obtain ⟨env', v, w', hrun, hle', hrel, hd⟩ := hop _ _ o _ _ env a w hs (ho0.le hle) hbase hf
        have go : ∀ v', den env' (f i) = some v' → wpAny P .any ops Q fuel (L.setIfInBounds i true) (a.put o.dst v') w' := fun v' hv' =>
          hnext j env' _ w' v' hj (Nat.le_refl _) (by omega) (fun i' hi' _ hl => h2 i' hi' hl) (hle.trans' hle') hle'.toext (hr.unbase hle'.given hrel) (finv' (hfi.step hnxj hle' hrel)) hv' rfl
        rcases hrun with hrun | ⟨hrun, rfl⟩
        · simp only [Oper.wp, hrun, Oper.upon]; exact go v hd
        · simp only [Oper.wp, hrun, Oper.upon]; exact go _ hd
      · have hjm : j = mv i - 1 := by
          have hlt2 : j < mv i := by rcases h2 i hip hfal with h | h <;> omega
          rcases Nat.lt_or_ge (mv i) 2 with h | h
          · omega
          · obtain ⟨e, he, hb, hee⟩ := hp.chain i o hip ho h
            have := hneeds e he hb
            omega
        have hun : ∀ i', i' < p → i' ≠ i → L.getD i' false = false → mv i' = 0 ∨ mv i < mv i' := fun i' hi' hne hl => by
          rcases h2 i' hi' hl with h | h
          · exact .inl h
          · right
            have : mv i' ≠ mv i := fun e => hne (hp.inj i' i (by omega) e)
            omega
        have hland : ∃ σL, landS lz (mv i) (σs j) = σL ∧ Rel P w0 env σL w ∧ FInv P w0 (flJ fl lm (mv i)) L env σL w := by
          refine ⟨_, rfl, ?_⟩
          unfold landS
          cases hlz : lz (mv i) with
          | none =>
            refine ⟨hr, ?_⟩
            have same : ∀ i' x, flJ fl lm (mv i) i' = some x → flJ fl lm j i' = some x := fun i' x h => by
              obtain ⟨q1, q2⟩ := flJ_some h
              exact flJ_mk q1 (by rcases q2 with q | q; exact .inl q; right; omega)
            exact ⟨fun i' n' T' h hl => hfi.off i' n' T' (same _ _ h) hl, fun i' n' T' h hl => hfi.on i' n' T' (same _ _ h) hl, fun i1 i2 n1 n2 T1 T2 b1 b2 e1 e2 => hfi.apart i1 i2 n1 n2 T1 T2 b1 b2 (same _ _ e1) (same _ _ e2)⟩
          | some x =>
            obtain ⟨i0, n, T, s⟩ := x
            obtain ⟨q1, q2, q3⟩ := hp.lands _ i0 n T s hlz
            have hfl0j : flJ fl lm j i0 = some (n, T) := flJ_mk q1 (.inr (by omega))
            obtain ⟨_, _, q, hq, hmq, hn⟩ := hp.landed i0 n T q1 (by omega)
            have hqi : q = i := hp.inj q i (by omega) (by omega)
            subst hqi
            have hlist : L.getD i0 false = true := by
              cases hn with
              | here ho' he hb => rw [ho] at ho'; cases ho'; exact hall _ he hb
              | more ho' he hb hn' => rw [ho] at ho'; cases ho'; exact h3.needs hn' (hall _ he hb)
            obtain ⟨b, s', vs, p1, p2, p3, p4, p5, p6, p7⟩ := hfi.on i0 n T hfl0j hlist
            rw [q2] at p4; cases p4
            have hO : ORel P env w b 0 (.cells (cellsS s) T true) := ⟨vs.toArray, T, (0, 0), vs, p6, thawed_zero _, p5, by rw [← denL_length p5]; simp, fun _ => ⟨by simpa using denL_length p5, rfl⟩, fun hx => by cases hx⟩
            have hnn : n < (σs j).next := hp.flnx i0 n T j q1 hj
            refine ⟨hr.land hnn p1 p3 hO (fun m o' x hm hx => p7 m o' x hm hx), ?_⟩
            have same : ∀ i' x, flJ fl lm (mv q) i' = some x → flJ fl lm j i' = some x ∧ i' ≠ i0 := fun i' x h => by
              obtain ⟨r1, r2⟩ := flJ_some h
              refine ⟨flJ_mk r1 (by rcases r2 with q | q; exact .inl q; right; omega), fun e' => ?_⟩
              subst e'; omega
            refine ⟨fun i' n' T' h hl => hfi.off i' n' T' (same _ _ h).1 hl, fun i' n' T' h hl => ?_, fun i1 i2 n1 n2 T1 T2 b1 b2 e1 e2 => hfi.apart i1 i2 n1 n2 T1 T2 b1 b2 (same _ _ e1).1 (same _ _ e2).1⟩
            obtain ⟨h', hne⟩ := same _ _ h
            obtain ⟨b', s'', vs', r1, r2, r3, r4, r5, r6, r7⟩ := hfi.on i' n' T' h' hl
            refine ⟨b', s'', vs', r1, r2, r3, r4, r5, r6, fun m o' x hm hx => ?_⟩
            rcases SH.get_put hm with ⟨rfl, _⟩ | ⟨_, hm⟩
            · rw [p1] at hx; cases hx
              exact fun e' => hfi.apart i' i0 n' m T' T (b', 0) (b, 0) h' hfl0j hne r1 p1 e'.symm
            · exact r7 m o' x hm hx
        obtain ⟨σL, hσL, hrL, hfiL⟩ := hland
        have hb2L : ∀ i n T, flJ fl lm (mv i) i = some (n, T) → True := fun _ _ _ _ => trivial
        have hnxL : ∀ i' n T, flJ fl lm (mv i) i' = some (n, T) → n < env.next := fun i' n T hi => hnx i' n T (flJ_some hi).1
        have hbaseL := hrL.rebase hfiL (fun i' _ _ _ => by cases L.getD i' false <;> simp)
        rcases hmov with hs | ⟨g, args, σ', hs, hc⟩
        · rw [← hjm, hσL, ← hcong ops _ _ o _ hlook] at hs
          obtain ⟨env', v, w', hrun, hle', hrel, hd⟩ := hop _ _ o _ _ env a w hs (ho0.le hle) hbaseL hf
          have go : ∀ v', den env' (f i) = some v' → wpAny P .any ops Q fuel (L.setIfInBounds i true) (a.put o.dst v') w' := fun v' hv' =>
            hnext (mv i) env' _ w' v' m2 (by omega) (Nat.le_refl _) hun (hle.trans' hle') hle'.toext (hrL.unbase hle'.given hrel) (finv' (hfiL.step hnxL hle' hrel)) hv' rfl
          rcases hrun with hrun | ⟨hrun, rfl⟩
          · simp only [Oper.wp, hrun, Oper.upon]; exact go v hd
          · simp only [Oper.wp, hrun, Oper.upon]; exact go _ hd
        · rw [← hjm, hσL, ← hcong ops _ _ o _ hlook] at hs
          obtain ⟨vs, w', hrun, hrel, hd⟩ := hop _ _ o _ _ env a w hs (ho0.le hle) hbaseL hf
          simp only [Oper.wp, hrun, Oper.upon]
          refine Calls.mono (hcall _ g args σ' _ env w' vs hc (ho0.le hle) hrel hd) ?_
          rintro e w'' ⟨x, hx, env', v, rfl, hle', hrel', hdv⟩
          obtain rfl := List.mem_singleton.1 hx
          exact hnext (mv i) env' _ w'' v m2 (by omega) (Nat.le_refl _) hun (hle.trans' hle') hle'.toext (hrL.unbase hle'.given hrel') (finv' (hfiL.step hnxL hle' hrel')) hdv rfl
end Go.Proofs.YtdkindollljlnabGreatDoor

