/-
  A call that was run over some blocks alone, as a summary for every heap that holds these: long runs are cut by it.
-/
import Derived.Test.YthenjjonphoklaaGreatDoorExec
set_option linter.unusedVariables false
set_option linter.unusedSimpArgs false
namespace Go.Proofs.YthenjjonphoklaaGreatDoor
open Go Go.RowKit

variable {P : Program}

def eqPL : List (SV × SV) → List (SV × SV) → Bool
  | [], [] => true
  | a :: r, b :: s => eqS a.1 b.1 && eqS a.2 b.2 && eqPL r s
  | _, _ => false
theorem eqPL_ok : ∀ (a b : List (SV × SV)), eqPL a b = true → a = b
  | [], [], _ => rfl
  | (x, y) :: r, (x', y') :: s, h => by
    simp only [eqPL, Bool.and_eq_true] at h
    rw [eqS_ok _ _ h.1.1, eqS_ok _ _ h.1.2, eqPL_ok r s h.2]
  | [], _ :: _, h => by simp [eqPL] at h
  | _ :: _, [], h => by simp [eqPL] at h
def eqLL : List SV → List SV → Bool
  | [], [] => true
  | a :: r, b :: s => eqS a b && eqLL r s
  | _, _ => false
theorem eqLL_ok : ∀ (a b : List SV), eqLL a b = true → a = b
  | [], [], _ => rfl
  | x :: r, x' :: s, h => by
    simp only [eqLL, Bool.and_eq_true] at h
    rw [eqS_ok _ _ h.1, eqLL_ok r s h.2]
  | [], _ :: _, h => by simp [eqLL] at h
  | _ :: _, [], h => by simp [eqLL] at h
def eqSO : SO → SO → Bool
  | .cells l e x, .cells l' e' x' => eqLL l l' && decide (e = e') && (x == x')
  | .map es, .map es' => eqPL es es'
  | .siter l p, .siter l' p' => decide (l = l') && decide (p = p')
  | .miter m a s b, .miter m' a' s' b' => eqS m m' && decide (a = a') && decide (s = s') && decide (b = b')
  | _, _ => false
theorem eqSO_ok (a b : SO) (h : eqSO a b = true) : a = b := by
  cases a <;> cases b <;> simp only [eqSO, Bool.and_eq_true, decide_eq_true_eq, beq_iff_eq, Bool.false_eq_true] at h
  · rw [eqLL_ok _ _ h.1.1, h.1.2, h.2]
  · rw [eqPL_ok _ _ h]
  · rw [h.1, h.2]
  · rw [eqS_ok _ _ h.1.1.1, h.1.1.2, h.1.2, h.2]
def eqOO : Option SO → Option SO → Bool
  | none, none => true
  | some a, some b => eqSO a b
  | _, _ => false
theorem eqOO_ok (a b : Option SO) (h : eqOO a b = true) : a = b := by
  cases a <;> cases b <;> simp only [eqOO, Bool.false_eq_true] at h
  · rfl
  · rw [eqSO_ok _ _ h]
def eqTr : Tr SO → Tr SO → Bool
  | .leaf, .leaf => true
  | .node v l r, .node v' l' r' => eqOO v v' && (eqTr l l' && eqTr r r')
  | _, _ => false
theorem eqTr_ok : ∀ (a b : Tr SO), eqTr a b = true → a = b
  | .leaf, .leaf, _ => rfl
  | .node v l r, .node v' l' r', h => by
    simp only [eqTr, Bool.and_eq_true] at h
    rw [eqOO_ok _ _ h.1, eqTr_ok _ _ h.2.1, eqTr_ok _ _ h.2.2]
  | .leaf, .node _ _ _, h => by simp [eqTr] at h
  | .node _ _ _, .leaf, h => by simp [eqTr] at h
def eqSH (σ σ' : SH) : Bool := Nat.beq σ.next σ'.next && eqTr σ.tr σ'.tr
theorem eqSH_ok (σ σ' : SH) (h : eqSH σ σ' = true) : σ = σ' := by
  unfold eqSH at h
  simp only [Bool.and_eq_true] at h
  cases σ; cases σ'
  have h1 := Nat.eq_of_beq_eq_true h.1
  have h2 := eqTr_ok _ _ h.2
  simp only at h1 h2
  rw [h1, h2]
def eqOs : Outs → Outs → Bool
  | [], [] => true
  | a :: r, b :: s => eqS a.1 b.1 && (eqSH a.2 b.2 && eqOs r s)
  | _, _ => false
theorem eqOs_ok : ∀ (a b : Outs), eqOs a b = true → a = b
  | [], [], _ => rfl
  | (x, σ) :: r, (x', σ') :: s, h => by
    simp only [eqOs, Bool.and_eq_true] at h
    rw [eqS_ok _ _ h.1, eqSH_ok _ _ h.2.1, eqOs_ok r s h.2.2]
  | [], _ :: _, h => by simp [eqOs] at h
  | _ :: _, [], h => by simp [eqOs] at h
/-- These ends, and no other. -/
def isOs (outs : Outs) (r : Option Outs) : Bool := match r with
  | some o => eqOs o outs
  | none => false
theorem isOs_ok {outs : Outs} {r : Option Outs} (h : isOs outs r = true) : r = some outs := by
  unfold isOs at h
  split at h
  · rw [eqOs_ok _ _ h]
  · cases h

/-- The one call, at the one heap; all else as ahead. -/
noncomputable def memoAt (f0 : FuncId) (A : List SV) (σ0 : SH) (outs : Outs) (rest : CallF) : CallF := fun f args σ =>
  @Bool.rec (fun _ => Option Outs) (rest f args σ) (@Bool.rec (fun _ => Option Outs) (rest f args σ) (@Bool.rec (fun _ => Option Outs) (rest f args σ) (some outs) (eqSH σ σ0)) (eqLL args A)) (Nat.beq f f0)
theorem memoAt_ok (hm : P.follows .mixedOrders = true) {summ : CallF} (hsumm : ∀ b, CallSound P b summ) {d : Nat} {f0 : FuncId} {A : List SV} {σ0 : SH} {outs : Outs} (h : isOs outs (exec P summ d f0 A σ0) = true) {rest : CallF} {b : Base} (hrest : CallSound P b rest) : CallSound P b (memoAt f0 A σ0 outs rest) := by
  intro f args σ outs' env w vs h' hones hrel ha
  unfold memoAt at h'
  cases h1 : Nat.beq f f0 with
  | false => rw [h1] at h'; exact hrest f args σ outs' env w vs h' hones hrel ha
  | true =>
    rw [h1] at h'
    cases h2 : eqLL args A with
    | false => rw [h2] at h'; exact hrest f args σ outs' env w vs h' hones hrel ha
    | true =>
      rw [h2] at h'
      cases h3 : eqSH σ σ0 with
      | false => rw [h3] at h'; exact hrest f args σ outs' env w vs h' hones hrel ha
      | true =>
        rw [h3] at h'
        have h' : some outs = some outs' := h'
        cases h'
        obtain rfl := Nat.eq_of_beq_eq_true h1
        obtain rfl := eqLL_ok _ _ h2
        obtain rfl := eqSH_ok _ _ h3
        exact exec_ok hm hsumm d b f args σ outs env w vs (isOs_ok h) hones hrel ha
end Go.Proofs.YthenjjonphoklaaGreatDoor

namespace Go.Proofs.YthenjjonphoklaaGreatDoor
open Go Go.RowKit

variable {P : Program}

abbrev Blks := List (Nat × SO)
/-- A row of bytes. -/
noncomputable def u8s (l : List Nat) : List SV := mapR (fun n => SV.int .u8 (Int.ofNat n)) l
/-- A heap that holds at least these. -/
noncomputable def frIn (l : Blks) (σ : SH) : Bool := @List.rec (Nat × SO) (fun _ => Bool) true (fun x _ ih => @Bool.rec (fun _ => Bool) false ih (@Option.rec SO (fun _ => Bool) false (fun o => eqSO o x.2) (σ.get x.1))) l
theorem frIn_ok {σ : SH} : ∀ {l : Blks}, frIn l σ = true → ∀ n o, (n, o) ∈ l → σ.get n = some o := by
  intro l
  induction l with
  | nil => intro _ n o h; cases h
  | cons x r ih =>
    intro h n o hm
    have h : @Bool.rec (fun _ => Bool) false (frIn r σ) (@Option.rec SO (fun _ => Bool) false (fun o => eqSO o x.2) (σ.get x.1)) = true := h
    cases hg : σ.get x.1 with
    | none => rw [hg] at h; exact absurd (show false = true from h) (by simp)
    | some o' =>
      rw [hg] at h
      have h : @Bool.rec (fun _ => Bool) false (frIn r σ) (eqSO o' x.2) = true := h
      cases he : eqSO o' x.2 with
      | false => rw [he] at h; exact absurd (show false = true from h) (by simp)
      | true =>
        rw [he] at h
        rcases List.mem_cons.1 hm with rfl | hm
        · rw [hg, eqSO_ok _ _ he]
        · exact ih h n o hm
noncomputable def putAll (l : Blks) (σ : SH) : SH := @List.rec (Nat × SO) (fun _ => SH) σ (fun x _ ih => ih.put x.1 (some x.2)) l
theorem putAll_next (l : Blks) (σ : SH) : (putAll l σ).next = σ.next := by
  induction l with
  | nil => rfl
  | cons x r ih => exact ih
theorem putAll_get {σ : SH} : ∀ {l : Blks} {n : Nat} {o : SO}, (putAll l σ).get n = some o → (n, o) ∈ l ∨ (σ.get n = some o ∧ ∀ o', (n, o') ∉ l) := by
  intro l
  induction l with
  | nil => intro n o h; exact .inr ⟨h, fun _ h => by cases h⟩
  | cons x r ih =>
    intro n o h
    have h : ((putAll r σ).put x.1 (some x.2)).get n = some o := h
    rcases SH.get_put h with ⟨h1, h2⟩ | ⟨h1, h2⟩
    · left; cases h2; subst h1; exact List.mem_cons_self
    · rcases ih h2 with h3 | ⟨h3, h4⟩
      · exact .inl (List.mem_cons_of_mem _ h3)
      · refine .inr ⟨h3, fun o' ho' => ?_⟩
        rcases List.mem_cons.1 ho' with e | ho'
        · exact h1 (by rw [← e])
        · exact h4 o' ho'
noncomputable def delAll (l : Blks) (σ : SH) : SH := @List.rec (Nat × SO) (fun _ => SH) σ (fun x _ ih => ih.put x.1 none) l
theorem delAll_next (l : Blks) (σ : SH) : (delAll l σ).next = σ.next := by
  induction l with
  | nil => rfl
  | cons x r ih => exact ih
theorem delAll_get {σ : SH} : ∀ {l : Blks} {n : Nat} {o : SO}, (delAll l σ).get n = some o → σ.get n = some o ∧ ∀ o', (n, o') ∉ l := by
  intro l
  induction l with
  | nil => intro n o h; exact ⟨h, fun _ h => by cases h⟩
  | cons x r ih =>
    intro n o h
    have h : ((delAll r σ).put x.1 none).get n = some o := h
    rcases SH.get_put h with ⟨h1, h2⟩ | ⟨h1, h2⟩
    · cases h2
    · obtain ⟨h3, h4⟩ := ih h2
      refine ⟨h3, fun o' ho' => ?_⟩
      rcases List.mem_cons.1 ho' with e | ho'
      · exact h1 (by rw [← e])
      · exact h4 o' ho'
/-- The heap of such a run. -/
noncomputable def heapOf (N : Nat) (H : Blks) : SH := putAll H ⟨N, .leaf⟩
theorem heapOf_get {N : Nat} {H : Blks} {n : Nat} {o : SO} (h : (heapOf N H).get n = some o) : (n, o) ∈ H := by
  rcases putAll_get h with h | ⟨h, _⟩
  · exact h
  · have := (SH.get_lt h).2
    simp only [Tr.get_leaf] at this
    cases this
/-- One end: its value, its next name, its blocks. -/
structure End1 where
  v : SV
  nx : Nat
  O : Blks
noncomputable def over (H : Blks) (e : End1) (σ : SH) : SH := putAll e.O (delAll H ⟨e.nx, σ.tr⟩)
/-- The ends of a run are these. -/
noncomputable def endsChk : List End1 → Outs → Bool
  | [], [] => true
  | e :: r, o :: s => eqS o.1 e.v && (Nat.beq o.2.next e.nx && (frIn e.O o.2 && endsChk r s))
  | _, _ => false
noncomputable def frChk (E : List End1) (r : Option Outs) : Bool := @Option.rec Outs (fun _ => Bool) false (fun o => endsChk E o) r
theorem endsChk_ok : ∀ {E : List End1} {outs : Outs}, endsChk E outs = true → ∀ o ∈ outs, ∃ e ∈ E, o.1 = e.v ∧ o.2.next = e.nx ∧ ∀ n x, (n, x) ∈ e.O → o.2.get n = some x := by
  intro E
  induction E with
  | nil => intro outs h o ho; cases outs with
    | nil => cases ho
    | cons a r => simp [endsChk] at h
  | cons e r ih =>
    intro outs h o ho
    cases outs with
    | nil => cases ho
    | cons a s =>
      simp only [endsChk, Bool.and_eq_true] at h
      rcases List.mem_cons.1 ho with rfl | ho
      · exact ⟨e, List.mem_cons_self, eqS_ok _ _ h.1, Nat.eq_of_beq_eq_true h.2.1, frIn_ok h.2.2.1⟩
      · obtain ⟨e', he', h'⟩ := ih h.2.2.2 o ho
        exact ⟨e', List.mem_cons_of_mem _ he', h'⟩
/-- The one call, over these blocks; all else as ahead. -/
noncomputable def frMemo (f0 : FuncId) (A : List SV) (N : Nat) (H : Blks) (E : List End1) (rest : CallF) : CallF := fun f args σ =>
  @Bool.rec (fun _ => Option Outs) (rest f args σ) (@Bool.rec (fun _ => Option Outs) (rest f args σ) (@Bool.rec (fun _ => Option Outs) (rest f args σ) (@Bool.rec (fun _ => Option Outs) (rest f args σ) (some (E.map fun e => (e.v, over H e σ))) (frIn H σ)) (eqLL args A)) (Nat.beq σ.next N)) (Nat.beq f f0)
theorem frMemo_ok (hm : P.follows .mixedOrders = true) {summ : CallF} (hsumm : ∀ b, CallSound P b summ) {d : Nat} {f0 : FuncId} {A : List SV} {N : Nat} {H : Blks} {E : List End1} (hrun : frChk E (exec P summ d f0 A (heapOf N H)) = true)
    {rest : CallF} {w0 : Base} (hrest : CallSound P w0 rest) : CallSound P w0 (frMemo f0 A N H E rest) := by
  intro f args σ outs env w vs h ho hr ha
  unfold frMemo at h
  cases h1 : Nat.beq f f0 with
  | false => rw [h1] at h; exact hrest f args σ outs env w vs h ho hr ha
  | true =>
  rw [h1] at h
  cases h2 : Nat.beq σ.next N with
  | false => rw [h2] at h; exact hrest f args σ outs env w vs h ho hr ha
  | true =>
  rw [h2] at h
  cases h3 : eqLL args A with
  | false => rw [h3] at h; exact hrest f args σ outs env w vs h ho hr ha
  | true =>
  rw [h3] at h
  cases h4 : frIn H σ with
  | false => rw [h4] at h; exact hrest f args σ outs env w vs h ho hr ha
  | true =>
  rw [h4] at h
  replace h : some (E.map fun e => (e.v, over H e σ)) = some outs := h
  cases h
  obtain rfl := Nat.eq_of_beq_eq_true h1
  have hN := Nat.eq_of_beq_eq_true h2
  obtain rfl := eqLL_ok _ _ h3
  have hH := frIn_ok h4
  unfold frChk at hrun
  cases hx : exec P summ d f args (heapOf N H) with
  | none => rw [hx] at hrun; exact absurd (show false = true from hrun) (by simp)
  | some o0 =>
  rw [hx] at hrun
  have hends := endsChk_ok (show endsChk E o0 = true from hrun)
  -- what is kept: what was, and each block that the call does not have
  let keep1 : Nat → Prop := fun b => w0.keep b ∨ ∃ n o c, σ.get n = some o ∧ (∀ o', (n, o') ∉ H) ∧ env.blocks n = some (b, c)
  have hkeep : ∀ b, keep1 b → b < w.heap.size := fun b hb => by
    rcases hb with hb | ⟨n, o, c, hn, _, hb⟩
    · exact Nat.lt_of_lt_of_le (hr.below.block b hb).1 hr.below.size
    · obtain ⟨b', c', e1, _, e3⟩ := hr.obj n o hn
      rw [hb] at e1; cases e1
      exact e3.lt
  have hnext : (heapOf N H).next = σ.next := by unfold heapOf; rw [putAll_next]; exact hN.symm
  have rel1 : Rel P ⟨w, keep1⟩ env (heapOf N H) w := by
    refine ⟨⟨hr.maxLen, fun g hg => .inl (hr.okay.2 g hg)⟩, ⟨rfl, rfl, rfl, Nat.le_refl _, fun k hk => ⟨hkeep k hk, rfl⟩⟩, hr.nx.trans hnext.symm, fun n hn => hr.fresh n (hnext ▸ hn), fun n o hg => ?_, fun n m o o' x y hne hg hg' hx hy => hr.apart n m o o' x y hne (hH n o (heapOf_get hg)) (hH m o' (heapOf_get hg')) hx hy⟩
    have hm' := heapOf_get hg
    obtain ⟨b, c, e1, e2, e3⟩ := hr.obj n o (hH n o hm')
    refine ⟨b, c, e1, fun hk => ?_, e3⟩
    rcases hk with hk | ⟨m, o', c', g1, g2, g3⟩
    · exact e2 hk
    · have hne : n ≠ m := fun e => g2 o (e ▸ hm')
      exact hr.apart n m o o' (b, c) (b, c') hne (hH n o hm') g1 e1 g3 rfl
  refine (exec_ok hm hsumm d ⟨w, keep1⟩ f args (heapOf N H) o0 env w vs hx ho rel1 ha).mono ?_
  rintro en w' ⟨o, hmem, env', u, rfl, hle, hr', hdu⟩
  obtain ⟨e, heE, hv, hnx, hO⟩ := hends o hmem
  refine ⟨(e.v, over H e σ), List.mem_map.2 ⟨e, heE, rfl⟩, env', u, rfl, hle, ?_, by rw [← hv]; exact hdu⟩
  have hon : (over H e σ).next = o.2.next := by
    unfold over; rw [putAll_next, delAll_next]; exact hnx.symm
  have hget : ∀ n x, (over H e σ).get n = some x → (n, x) ∈ e.O ∨ (σ.get n = some x ∧ ∀ o', (n, o') ∉ H) := fun n x hg => by
    rcases putAll_get hg with hg | ⟨hg, _⟩
    · exact .inl hg
    · obtain ⟨g1, g2⟩ := delAll_get hg
      exact .inr ⟨g1, g2⟩
  have old : ∀ n x, σ.get n = some x → (∀ o', (n, o') ∉ H) → ∃ b c, env'.blocks n = some (b, c) ∧ ¬ w0.keep b ∧ keep1 b ∧ ORel P env' w' b c x := fun n x g1 g2 => by
    obtain ⟨b, c, e1, e2, e3⟩ := hr.obj n x g1
    have hk : keep1 b := .inr ⟨n, x, c, g1, g2, e1⟩
    exact ⟨b, c, hle.some n _ e1, e2, hk, e3.mono hle (hr'.below.block b hk).2⟩
  refine ⟨hr.okay, ⟨hr'.below.os.trans hr.below.os, hr'.below.tape.trans hr.below.tape, hr'.below.output.trans hr.below.output, Nat.le_trans hr.below.size hr'.below.size, fun k hk => ?_⟩, hr'.nx.trans hon.symm, fun n hn => hr'.fresh n (hon ▸ hn), fun n x hg => ?_, fun n m x y b c hne hg hg' hb hc => ?_⟩
  · obtain ⟨q1, q2⟩ := hr.below.block k hk
    exact ⟨q1, (hr'.below.block k (.inl hk)).2.trans q2⟩
  · rcases hget n x hg with hg | ⟨g1, g2⟩
    · obtain ⟨b, c, e1, e2, e3⟩ := hr'.obj n x (hO n x hg)
      exact ⟨b, c, e1, fun hk => e2 (.inl hk), e3⟩
    · obtain ⟨b, c, e1, e2, _, e3⟩ := old n x g1 g2
      exact ⟨b, c, e1, e2, e3⟩
  · rcases hget n x hg with hg | ⟨g1, g2⟩
    · rcases hget m y hg' with hg' | ⟨g1', g2'⟩
      · exact hr'.apart n m x y b c hne (hO n x hg) (hO m y hg') hb hc
      · obtain ⟨bn, cn, e1, e2, _⟩ := hr'.obj n x (hO n x hg)
        obtain ⟨bm, cm, f1, _, f2, _⟩ := old m y g1' g2'
        rw [hb] at e1; rw [hc] at f1; cases e1; cases f1
        exact fun e => e2 (by show keep1 bn; have e : bn = bm := e; rw [e]; exact f2)
    · rcases hget m y hg' with hg' | ⟨g1', g2'⟩
      · obtain ⟨bm, cm, f1, f2, _⟩ := hr'.obj m y (hO m y hg')
        obtain ⟨bn, cn, e1, _, e2, _⟩ := old n x g1 g2
        rw [hb] at e1; rw [hc] at f1; cases e1; cases f1
        exact fun e => f2 (by show keep1 bm; have e : bn = bm := e; rw [← e]; exact e2)
      · obtain ⟨bn, cn, p1, _⟩ := hr.obj n x g1
        obtain ⟨bm, cm, q1, _⟩ := hr.obj m y g1'
        have e1 := hle.some n _ p1
        have e2 := hle.some m _ q1
        rw [hb] at e1; rw [hc] at e2; cases e1; cases e2
        exact hr.apart n m x y _ _ hne g1 g1' p1 q1
end Go.Proofs.YthenjjonphoklaaGreatDoor
