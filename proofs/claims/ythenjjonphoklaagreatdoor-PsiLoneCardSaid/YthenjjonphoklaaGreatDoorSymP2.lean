/-
  THE EXECUTOR, part P2: plans in which a block that was made early lands at the first move that looks at it.
-/
import Derived.Test.YthenjjonphoklaaGreatDoorSymP
set_option linter.unusedVariables false
set_option linter.unusedSimpArgs false
namespace Go.Proofs.YthenjjonphoklaaGreatDoor
open Go Go.RowKit

variable {P : Program} {w0 : Base}

/-- The heap ahead of the m-th move: a block that was made early comes into it. -/
noncomputable def landS (lz : Nat → Option (Nat × Nat × TypeId × SV)) (m : Nat) (σ : SH) : SH := match lz m with
  | some (_, n, T, s) => σ.put n (some (.cells (cellsS s) T true))
  | none => σ
/-- The blocks that were made early and have not landed behind j moves. -/
def flJ (fl : Nat → Option (Nat × TypeId)) (lm : Nat → Nat) (j i : Nat) : Option (Nat × TypeId) := if lm i = 0 ∨ j < lm i then fl i else none
theorem flJ_some {fl : Nat → Option (Nat × TypeId)} {lm : Nat → Nat} {j i : Nat} {x : Nat × TypeId} (h : flJ fl lm j i = some x) : fl i = some x ∧ (lm i = 0 ∨ j < lm i) := by
  unfold flJ at h
  split at h
  · rename_i hc; exact ⟨h, hc⟩
  · cases h
theorem flJ_mk {fl : Nat → Option (Nat × TypeId)} {lm : Nat → Nat} {j i : Nat} {x : Nat × TypeId} (h : fl i = some x) (hc : lm i = 0 ∨ j < lm i) : flJ fl lm j i = some x := by
  unfold flJ; rw [if_pos hc]; exact h

/-- What a plan of the first part keeps. -/
structure Plan2 (P : Program) (op : OpF) (call : CallF) (ops : Array Oper) (p : Nat) (st : Row) (f : Nat → SV) (lo mv : Nat → Nat) (σs : Nat → SH) (k : Nat) (fl : Nat → Option (Nat × TypeId)) (lm : Nat → Nat) (lz : Nat → Option (Nat × Nat × TypeId × SV)) : Prop where
  shape : Shape ops p
  each : ∀ i o, i < p → ops[i]? = some o → fl i = none →
    (wantS ops o (fillS ops f st (fun _ => true) i) = some false ∧ f i = .undef ∧ mv i = 0) ∨
    (wantS ops o (fillS ops f st (fun _ => true) i) = some true ∧
      ((mv i = 0 ∧ ∀ j ≤ k, lo i ≤ j → (∀ q, 1 ≤ mv q → mv q ≤ j → ¬ Needs ops q i) → op (fillS ops f st (fun _ => true) i) o (σs j) = some (.val (f i) (σs j))) ∨
       (1 ≤ mv i ∧ mv i ≤ k ∧ (op (fillS ops f st (fun _ => true) i) o (landS lz (mv i) (σs (mv i - 1))) = some (.val (f i) (σs (mv i))) ∨
          ∃ g args σ', op (fillS ops f st (fun _ => true) i) o (landS lz (mv i) (σs (mv i - 1))) = some (.enter g args σ') ∧ call g args σ' = some [(f i, σs (mv i))]))))
  flop : ∀ i n T, fl i = some (n, T) → i < p ∧ f i = .ptr n 0 ∧ mv i = 0 ∧ (∃ o, ops[i]? = some o ∧ o.op = .alloc T ∧ o.guard = none) ∧ ∃ s, szero P T = some s
  flinj : ∀ i i' n T T', fl i = some (n, T) → fl i' = some (n, T') → i = i'
  flnx : ∀ i n T j, fl i = some (n, T) → j ≤ k → n < (σs j).next
  low : ∀ i o j, i < p → ops[i]? = some o → (∀ e ∈ o.after, Region.binds .any e = true → mv e.on ≤ j ∧ lo e.on ≤ j) → lo i ≤ j
  chain : ∀ i o, i < p → ops[i]? = some o → 2 ≤ mv i → ∃ e ∈ o.after, Region.binds .any e = true ∧ (mv i - 1 ≤ mv e.on ∨ mv i - 1 ≤ lo e.on)
  inj : ∀ i i', 1 ≤ mv i → mv i = mv i' → i = i'
  out : ∀ i, p ≤ i → mv i = 0
  top : k = 0 ∨ ∃ i, i < p ∧ mv i = k
  /-- what lands, and where -/
  lands : ∀ m i n T s, lz m = some (i, n, T, s) → fl i = some (n, T) ∧ szero P T = some s ∧ lm i = m
  landed : ∀ i n T, fl i = some (n, T) → 1 ≤ lm i → (∃ s, lz (lm i) = some (i, n, T, s)) ∧ lm i ≤ k ∧ ∃ q, q < p ∧ mv q = lm i ∧ Needs ops q i

theorem plan_any2 {op : OpF} {call : CallF} (hop : ∀ b, OpSound P b op) (hcong : OpCong op) (hcall : ∀ b, CallSound P b call) {ops : Array Oper} {p : Nat} {st : Row} {f : Nat → SV} {lo mv : Nat → Nat} {σs : Nat → SH} {k : Nat} {fl : Nat → Option (Nat × TypeId)} {lm : Nat → Nat} {lz : Nat → Option (Nat × Nat × TypeId × SV)}
    (hp : Plan2 P op call ops p st f lo mv σs k fl lm lz) {env0 : Env} (ho0 : env0.ones) (hfl0 : ∀ i n T, fl i = some (n, T) → env0.next ≤ n) {Q : Exit → Act → World → Prop}
    (hQ : ∀ L env a w, L.size = ops.size → (∀ i, i < p → L.getD i false = true) → env0.le env → Rel P w0 env (σs k) w → FInv P w0 (flJ fl lm k) L env (σs k) w → FRel env (fillS ops f st (fun _ => true) p) a → wpList P ops Q (ops.toList.drop p) a w) :
    ∀ (fuel : Nat) (L : Array Bool) (a : Act) (w : World) (j : Nat) (env : Env), L.size = ops.size → unlisted L ops.size ≤ fuel → j ≤ k →
      (∀ i, p ≤ i → L.getD i false = false) →
      (∀ i, i < p → L.getD i false = true → mv i ≤ j ∧ lo i ≤ j) → (∀ i, i < p → L.getD i false = false → mv i = 0 ∨ j < mv i) →
      Closed ops L → env0.le env → Rel P w0 env (σs j) w → FInv P w0 (flJ fl lm j) L env (σs j) w → FRel env (fillS ops f st (fun i => L.getD i false) p) a →
      wpAny P .any ops Q fuel L a w := by
  have hsh := hp.shape
  -- the first part is over
  have hend : ∀ (fuel : Nat) (L : Array Bool) (a : Act) (w : World) (j : Nat) (env : Env), L.size = ops.size → unlisted L ops.size ≤ fuel → j ≤ k → (∀ i, p ≤ i → L.getD i false = false) → (∀ i, i < p → L.getD i false = true → mv i ≤ j ∧ lo i ≤ j) → env0.le env → Rel P w0 env (σs j) w → FInv P w0 (flJ fl lm j) L env (σs j) w →
      FRel env (fillS ops f st (fun i => L.getD i false) p) a → (∀ i, i < p → L.getD i false = true) → wpAny P .any ops Q fuel L a w := by
    intro fuel L a w j env hL hu hj hsuf h1 hle hr hfi hf hall
    have hjk : j = k := by
      rcases hp.top with h | ⟨i, hi, h⟩
      · omega
      · have := (h1 i hi (hall i hi)).1; omega
    subst hjk
    have hcnt : ops.size - p ≤ unlisted L ops.size := by
      have key : ∀ n, n ≤ ops.size → n - p ≤ unlisted L n := by
        intro n
        induction n with
        | zero => intro _; omega
        | succ n ihn =>
          intro hn
          have := ihn (by omega)
          simp only [unlisted]
          by_cases hpn : p ≤ n
          · have hf := hsuf n hpn
            rw [getD_both (by omega)] at hf
            rw [hf]
            simp; omega
          · omega
      exact key _ (Nat.le_refl _)
    refine seq_any hsh fuel p L a w hL (by omega) (Nat.le_refl _) hsh.le (fun i hi => ?_) (hQ L env a w hL hall hle hr hfi ?_)
    · by_cases hip : i < p
      · rw [hall i hip]; simp [hip]
      · rw [hsuf i (by omega)]; simp [hip]
    · rw [fillS_congr (m' := fun _ => true) p hall] at hf
      exact hf
  intro fuel
  induction fuel with
  | zero =>
    intro L a w j env hL hu hj hsuf h1 h2 h3 hle hr hfi hf
    refine hend 0 L a w j env hL hu hj hsuf h1 hle hr hfi hf fun i hi => ?_
    have := unlisted_zero (L := L) ops.size (by omega) i (by have := hsh.le; omega)
    rw [getD_both (by have := hsh.le; omega)]; exact this
  | succ fuel ih =>
    intro L a w j env hL hu hj hsuf h1 h2 h3 hle hr hfi hf
    by_cases hallp : ∀ i, i < p → L.getD i false = true
    · exact hend (fuel + 1) L a w j env hL hu hj hsuf h1 hle hr hfi hf hallp
    have hnx : ∀ i n T, fl i = some (n, T) → n < env.next := fun i n T hi => by rw [hr.nx]; exact hp.flnx i n T j hi hj
    have hnxj : ∀ i n T, flJ fl lm j i = some (n, T) → n < env.next := fun i n T hi => hnx i n T (flJ_some hi).1
    have hb2 : ∀ i n T, flJ fl lm j i = some (n, T) → L.getD i false = true ∨ L.getD i false = false := fun i _ _ _ => by cases L.getD i false <;> simp
    refine ⟨fun hrd => ?_, fun i hi => ?_⟩
    · exact absurd (fun i hi => shape_listed hsh hL hrd i (by have := hsh.le; omega)) hallp
    obtain ⟨h0, o, ho, hall⟩ := mem_ready.1 hi
    have hlt : i < ops.size := (Array.getElem?_eq_some_iff.1 ho).1
    have hip : i < p := by
      rcases Nat.lt_or_ge i p with h | h
      · exact h
      · exact absurd (fun q hq => h3.ready ho hall (hsh.tail i q h hlt (by omega))) hallp
    have hslot : slotOf ops i = o.dst := by unfold slotOf; rw [ho]; rfl
    have hfal : L.getD i false = false := by rw [getD_both (by omega)]; exact h0
    have hlook : ∀ t, t ∈ o.looksAt ops → (fillS ops f st (fun i => L.getD i false) p).at t = (fillS ops f st (fun _ => true) i).at t := by
      intro t hmem
      have e1 : fillS ops f st (fun _ => true) i = fillS ops f st (fun j => decide (j < i)) i := fillS_congr i (fun j hj => by simp [hj])
      have e2 : ∀ q, i ≤ q → fillS ops f st (fun j => decide (j < i)) q = fillS ops f st (fun j => decide (j < i)) i := by
        intro q
        induction q with
        | zero => intro h; rw [Nat.le_zero.1 h]
        | succ q ihq =>
          intro h
          rcases Nat.lt_or_ge q i with h' | h'
          · rw [show q + 1 = i by omega]
          · have : decide (q < i) = false := by simp; omega
            simp only [fillS, this, Bool.false_eq_true, if_false]
            exact ihq h'
      rw [e1, ← e2 p (by omega)]
      refine fillS_look p fun q hq hqt => ?_
      obtain ⟨g1, e, he, hb, rfl⟩ := hsh.reads i o hip ho q t hq hqt hmem
      rw [hall e he hb]; simp [g1]
    have hneeds : ∀ e ∈ o.after, Region.binds .any e = true → mv e.on ≤ j ∧ lo e.on ≤ j := fun e he hb => by
      have hon := hsh.back i o ho e he hb
      exact h1 e.on (by omega) (hall e he hb)
    have hlow := hp.low i o j hip ho hneeds
    have hset : ∀ q, (L.setIfInBounds i true).getD q false = (L.getD q false || q == i) := fun q => by
      by_cases hq : q = i
      · subst hq
        have : q < L.size := by omega
        simp [this]
      · rw [getD_set_ne false (Ne.symm hq)]; simp [hq]
    -- behind it
    have hnext : ∀ (j' : Nat) (env' : Env) (a' : Act) (w' : World) (v : Value), j' ≤ k → j ≤ j' → mv i ≤ j' → (∀ i', i' < p → i' ≠ i → L.getD i' false = false → mv i' = 0 ∨ j' < mv i') → env0.le env' → env.ext env' → Rel P w0 env' (σs j') w' → FInv P w0 (flJ fl lm j') (L.setIfInBounds i true) env' (σs j') w' → den env' (f i) = some v →
        a' = a.put o.dst v → wpAny P .any ops Q fuel (L.setIfInBounds i true) a' w' := by
      intro j' env' a' w' v hj' hjj hmi hun hle0 hext hr' hfi' hd ha'
      refine ih _ _ _ j' env' (by simp [hL]) ?_ hj' (fun i' hi' => ?_) (fun i' hi' hl => ?_) (fun i' hi' hl => ?_) (h3.set ho hall (by omega)) hle0 hr' hfi' ?_
      · have := (unlisted_set h0 ops.size).2 hlt; omega
      · rw [hset, hsuf i' hi']
        have : (i' == i) = false := by simp; omega
        rw [this]; rfl
      · rw [hset] at hl
        by_cases hq : i' = i
        · subst hq; exact ⟨hmi, by omega⟩
        · have hb : (i' == i) = false := by simpa using hq
          rw [hb, Bool.or_false] at hl
          have := h1 i' hi' hl
          exact ⟨by omega, by omega⟩
      · rw [hset] at hl
        by_cases hq : i' = i
        · subst hq; simp at hl
        · have hb : (i' == i) = false := by simpa using hq
          rw [hb, Bool.or_false] at hl
          exact hun i' hi' hq hl
      · have hfs := fillS_setp (ops := ops) (f := f) (st := st) (m := fun q => L.getD q false) (i := i) (p := p) (fun q d hq g1 g2 => hsh.slots q i d hq hip g1 g2) hfal p (Nat.le_refl _) hip
        rw [hslot] at hfs
        rw [fillS_congr (m' := fun q => L.getD q false || q == i) p (fun q _ => hset q), hfs, ha']
        exact putS_ok (hf.ext hext) hd
    unfold wpOp
    simp only [ho]
    cases hfli : fl i with
    | some nT =>
      obtain ⟨n, T⟩ := nT
      obtain ⟨_, g2, g3, ⟨o', ho', g4, g5⟩, s, g6⟩ := hp.flop i n T hfli
      rw [ho] at ho'; cases ho'
      have hw : Region.wanted o (yielded ops a.tmps) = true := by unfold Region.wanted; rw [g5]
      rw [if_pos hw]
      left
      obtain ⟨z, hz, hzr⟩ := szero_ok (env := env) g6
      have hzc := cellsS_den (ho0.le hle) hz
      have hrun : (execOp a.eval o).run P w = .ok (.value (.pointer (some ⟨w.heap.size, 0, none⟩))) (w.alloc (.cells z.cells T)) := by
        simp [execOp, g4, Instr.alloc, hzr, newVar, newRow]
      simp only [Oper.wp, hrun, Oper.upon]
      have hflj : flJ fl lm j i = some (n, T) := by
        refine flJ_mk hfli ?_
        rcases Nat.eq_zero_or_pos (lm i) with h | h
        · exact .inl h
        · right
          obtain ⟨_, _, q, hq, hmq, hn⟩ := hp.landed i n T hfli h
          rcases Nat.lt_or_ge j (lm i) with h' | h'
          · exact h'
          · have hql : L.getD q false = true := by
              cases hx : L.getD q false with
              | true => rfl
              | false => rcases h2 q hq hx with h'' | h'' <;> omega
            have := h3.needs hn hql
            rw [hfal] at this; cases this
      have hhole := hfi.off i n T hflj hfal
      have hbl : Below w.heap.size w (w.alloc (.cells z.cells T)) := ⟨rfl, rfl, rfl, by rw [World.size_alloc]; omega, fun k hk => heap_alloc_old w _ k hk⟩
      obtain ⟨r1, r2⟩ := (hr.world hbl).fill (b := w.heap.size) (hnx i n T hfli) hhole
      have hle0 : env0.le { env with blocks := fun m => if m = n then some (w.heap.size, 0) else env.blocks m } := by
        refine ⟨⟨hle.given, fun m x hx => r2.some m x (hle.some m x hx)⟩, hle.next, fun m hm => ?_⟩
        have := hfl0 i n T hfli
        have hne : m ≠ n := by omega
        simp only [hne, if_false]
        exact hle.same m hm
      have other : ∀ i' n' T', flJ fl lm j i' = some (n', T') → i' ≠ i → n' ≠ n := fun i' n' T' h hne e => by
        subst e
        exact hne (hp.flinj i' i n' T' T (flJ_some h).1 hfli)
      refine hnext j _ _ _ (.pointer (some ⟨w.heap.size, 0, none⟩)) hj (Nat.le_refl _) (by omega) (fun i' hi' _ hl => h2 i' hi' hl) hle0 r2 r1 ?_ (by rw [g2]; simp [den]) rfl
      refine ⟨fun i' n' T' hi' hl => ?_, fun i' n' T' hi' hl => ?_, fun i1 i2 n1 n2 T1 T2 b1 b2 e1 e2 hne c1 c2 => ?_⟩
      · rw [hset] at hl
        by_cases hq : i' = i
        · subst hq; simp at hl
        · have hb : (i' == i) = false := by simpa using hq
          rw [hb, Bool.or_false] at hl
          simp only [other i' n' T' hi' hq, if_false]
          exact hfi.off i' n' T' hi' hl
      · by_cases hq : i' = i
        · subst hq
          rw [hflj] at hi'; cases hi'
          refine ⟨w.heap.size, s, z.cells.toList, by simp, by simp, fun hk => ?_, g6, denL_ext r2 _ _ hzc, by rw [Array.toArray_toList]; exact heap_alloc_new w _, fun m o' x hm hx e => ?_⟩
          · have := (hr.below.block _ hk).1
            have := hr.below.size
            omega
          · obtain ⟨b', c', q1, q2, q3⟩ := hr.obj m o' hm
            have hmn : m ≠ n := fun e' => by subst e'; rw [hhole] at q1; cases q1
            simp only [hmn, if_false] at hx
            rw [hx] at q1; cases q1
            have := q3.lt
            omega
        · rw [hset] at hl
          have hb : (i' == i) = false := by simpa using hq
          rw [hb, Bool.or_false] at hl
          obtain ⟨b, s', vs, q1, q2, q3, q4, q5, q6, q7⟩ := hfi.on i' n' T' hi' hl
          refine ⟨b, s', vs, r2.some _ _ q1, by rw [World.size_alloc]; omega, q3, q4, denL_ext r2 _ _ q5, (heap_alloc_old w _ b q2).trans q6, fun m o' x hm hx => ?_⟩
          obtain ⟨b', c', p1, p2, p3⟩ := hr.obj m o' hm
          have hmn : m ≠ n := fun e' => by subst e'; rw [hhole] at p1; cases p1
          simp only [hmn, if_false] at hx
          exact q7 m o' x hm hx
      · have look : ∀ i' n' T' (b' : Nat × Nat), flJ fl lm j i' = some (n', T') → (if n' = n then some (w.heap.size, 0) else env.blocks n') = some b' → (i' = i ∧ b'.1 = w.heap.size) ∨ (i' ≠ i ∧ env.blocks n' = some b' ∧ b'.1 < w.heap.size) := fun i' n' T' b' hi' hb' => by
          by_cases hq : i' = i
          · subst hq
            rw [hflj] at hi'; cases hi'
            simp at hb'; subst hb'
            exact .inl ⟨rfl, rfl⟩
          · simp only [other i' n' T' hi' hq, if_false] at hb'
            refine .inr ⟨hq, hb', ?_⟩
            rcases hb2 i' n' T' hi' with hl | hl
            · obtain ⟨b, s', vs, q1, q2, _⟩ := hfi.on i' n' T' hi' hl
              rw [hb'] at q1; cases q1; exact q2
            · rw [hfi.off i' n' T' hi' hl] at hb'; cases hb'
        rcases look i1 n1 T1 b1 e1 c1 with ⟨a1, a2⟩ | ⟨a1, a2, a3⟩ <;> rcases look i2 n2 T2 b2 e2 c2 with ⟨d1, d2⟩ | ⟨d1, d2, d3⟩
        · exact absurd (a1.trans d1.symm) hne
        · omega
        · omega
        · exact hfi.apart i1 i2 n1 n2 T1 T2 b1 b2 e1 e2 hne a2 d2
    | none =>
    have finv' : ∀ {jj : Nat} {env' : Env} {σ' : SH} {w' : World}, FInv P w0 (flJ fl lm jj) L env' σ' w' → FInv P w0 (flJ fl lm jj) (L.setIfInBounds i true) env' σ' w' := fun {jj env' σ' w'} h => by
      have ne : ∀ i' n' T', flJ fl lm jj i' = some (n', T') → i' ≠ i := fun i' n' T' h e => by subst e; have h' := (flJ_some h).1; rw [hfli] at h'; cases h'
      refine ⟨fun i' n' T' hi' hl => h.off i' n' T' hi' ?_, fun i' n' T' hi' hl => h.on i' n' T' hi' ?_, h.apart⟩
      all_goals
        rw [hset] at hl
        have hb : (i' == i) = false := by simpa using ne i' n' T' hi'
        rw [hb, Bool.or_false] at hl
        exact hl
    have hbase := hr.rebase hfi hb2
    rcases hp.each i o hip ho hfli with ⟨g1, g2, g3⟩ | ⟨g1, g2⟩
    · rw [← wantS_cong hlook] at g1
      rw [wantS_ok g1 hf]
      simp only [Bool.false_eq_true, if_false]
      exact hnext j env _ w undef hj (Nat.le_refl _) (by omega) (fun i' hi' _ hl => h2 i' hi' hl) hle (Env.le_refl _).toext hr (finv' hfi) (by rw [g2]; simp only [den]) rfl
    · rw [← wantS_cong hlook] at g1
      rw [wantS_ok g1 hf]
      simp only [if_true]
      left
      rcases g2 with ⟨m0, hst⟩ | ⟨m1, m2, hmov⟩
      · have hs := hst j hj hlow (fun q hq1 hq2 hn => by
          have hqp : q < p := by
            rcases Nat.lt_or_ge q p with h | h
            · exact h
            · have := hp.out q h; omega
          have hpl : L.getD q false = true := by
            cases hx : L.getD q false with
            | true => rfl
            | false => rcases h2 q hqp hx with h | h <;> omega
          have := h3.needs hn hpl
          rw [hfal] at this; cases this)
        rw [← hcong ops _ _ o _ hlook] at hs
        obtain ⟨env', v, w', hrun, hle', hrel, hd⟩ := hop _ _ o _ _ env a w hs (ho0.le hle) hbase hf
        have go : ∀ v', den env' (f i) = some v' → wpAny P .any ops Q fuel (L.setIfInBounds i true) (a.put o.dst v') w' := fun v' hv' =>
          hnext j env' _ w' v' hj (Nat.le_refl _) (by omega) (fun i' hi' _ hl => h2 i' hi' hl) (hle.trans' hle') hle'.toext (hr.unbase hrel) (finv' (hfi.step hnxj hle' hrel)) hv' rfl
        rcases hrun with hrun | ⟨hrun, rfl⟩
        · simp only [Oper.wp, hrun, Oper.upon]; exact go v hd
        · simp only [Oper.wp, hrun, Oper.upon]; exact go _ hd
      · have hjm : j = mv i - 1 := by
          have hlt2 : j < mv i := by rcases h2 i hip hfal with h | h <;> omega
          rcases Nat.lt_or_ge (mv i) 2 with h | h
          · omega
          · obtain ⟨e, he, hb, hee⟩ := hp.chain i o hip ho h
            have := hneeds e he hb
            omega
        have hun : ∀ i', i' < p → i' ≠ i → L.getD i' false = false → mv i' = 0 ∨ mv i < mv i' := fun i' hi' hne hl => by
          rcases h2 i' hi' hl with h | h
          · exact .inl h
          · right
            have : mv i' ≠ mv i := fun e => hne (hp.inj i' i (by omega) e)
            omega
        have hland : ∃ σL, landS lz (mv i) (σs j) = σL ∧ Rel P w0 env σL w ∧ FInv P w0 (flJ fl lm (mv i)) L env σL w := by
          refine ⟨_, rfl, ?_⟩
          unfold landS
          cases hlz : lz (mv i) with
          | none =>
            refine ⟨hr, ?_⟩
            have same : ∀ i' x, flJ fl lm (mv i) i' = some x → flJ fl lm j i' = some x := fun i' x h => by
              obtain ⟨q1, q2⟩ := flJ_some h
              exact flJ_mk q1 (by rcases q2 with q | q; exact .inl q; right; omega)
            exact ⟨fun i' n' T' h hl => hfi.off i' n' T' (same _ _ h) hl, fun i' n' T' h hl => hfi.on i' n' T' (same _ _ h) hl, fun i1 i2 n1 n2 T1 T2 b1 b2 e1 e2 => hfi.apart i1 i2 n1 n2 T1 T2 b1 b2 (same _ _ e1) (same _ _ e2)⟩
          | some x =>
            obtain ⟨i0, n, T, s⟩ := x
            obtain ⟨q1, q2, q3⟩ := hp.lands _ i0 n T s hlz
            have hfl0j : flJ fl lm j i0 = some (n, T) := flJ_mk q1 (.inr (by omega))
            obtain ⟨_, _, q, hq, hmq, hn⟩ := hp.landed i0 n T q1 (by omega)
            have hqi : q = i := hp.inj q i (by omega) (by omega)
            subst hqi
            have hlist : L.getD i0 false = true := by
              cases hn with
              | here ho' he hb => rw [ho] at ho'; cases ho'; exact hall _ he hb
              | more ho' he hb hn' => rw [ho] at ho'; cases ho'; exact h3.needs hn' (hall _ he hb)
            obtain ⟨b, s', vs, p1, p2, p3, p4, p5, p6, p7⟩ := hfi.on i0 n T hfl0j hlist
            rw [q2] at p4; cases p4
            have hO : ORel P env w b 0 (.cells (cellsS s) T true) := ⟨vs.toArray, T, (0, 0), vs, p6, thawed_zero _, p5, by rw [← denL_length p5]; simp, fun _ => ⟨by simpa using denL_length p5, rfl⟩, fun hx => by cases hx⟩
            have hnn : n < (σs j).next := hp.flnx i0 n T j q1 hj
            refine ⟨hr.land hnn p1 p3 hO (fun m o' x hm hx => p7 m o' x hm hx), ?_⟩
            have same : ∀ i' x, flJ fl lm (mv q) i' = some x → flJ fl lm j i' = some x ∧ i' ≠ i0 := fun i' x h => by
              obtain ⟨r1, r2⟩ := flJ_some h
              refine ⟨flJ_mk r1 (by rcases r2 with q | q; exact .inl q; right; omega), fun e' => ?_⟩
              subst e'; omega
            refine ⟨fun i' n' T' h hl => hfi.off i' n' T' (same _ _ h).1 hl, fun i' n' T' h hl => ?_, fun i1 i2 n1 n2 T1 T2 b1 b2 e1 e2 => hfi.apart i1 i2 n1 n2 T1 T2 b1 b2 (same _ _ e1).1 (same _ _ e2).1⟩
            obtain ⟨h', hne⟩ := same _ _ h
            obtain ⟨b', s'', vs', r1, r2, r3, r4, r5, r6, r7⟩ := hfi.on i' n' T' h' hl
            refine ⟨b', s'', vs', r1, r2, r3, r4, r5, r6, fun m o' x hm hx => ?_⟩
            rcases SH.get_put hm with ⟨rfl, _⟩ | ⟨_, hm⟩
            · rw [p1] at hx; cases hx
              exact fun e' => hfi.apart i' i0 n' m T' T (b', 0) (b, 0) h' hfl0j hne r1 p1 e'.symm
            · exact r7 m o' x hm hx
        obtain ⟨σL, hσL, hrL, hfiL⟩ := hland
        have hb2L : ∀ i n T, flJ fl lm (mv i) i = some (n, T) → True := fun _ _ _ _ => trivial
        have hnxL : ∀ i' n T, flJ fl lm (mv i) i' = some (n, T) → n < env.next := fun i' n T hi => hnx i' n T (flJ_some hi).1
        have hbaseL := hrL.rebase hfiL (fun i' _ _ _ => by cases L.getD i' false <;> simp)
        rcases hmov with hs | ⟨g, args, σ', hs, hc⟩
        · rw [← hjm, hσL, ← hcong ops _ _ o _ hlook] at hs
          obtain ⟨env', v, w', hrun, hle', hrel, hd⟩ := hop _ _ o _ _ env a w hs (ho0.le hle) hbaseL hf
          have go : ∀ v', den env' (f i) = some v' → wpAny P .any ops Q fuel (L.setIfInBounds i true) (a.put o.dst v') w' := fun v' hv' =>
            hnext (mv i) env' _ w' v' m2 (by omega) (Nat.le_refl _) hun (hle.trans' hle') hle'.toext (hrL.unbase hrel) (finv' (hfiL.step hnxL hle' hrel)) hv' rfl
          rcases hrun with hrun | ⟨hrun, rfl⟩
          · simp only [Oper.wp, hrun, Oper.upon]; exact go v hd
          · simp only [Oper.wp, hrun, Oper.upon]; exact go _ hd
        · rw [← hjm, hσL, ← hcong ops _ _ o _ hlook] at hs
          obtain ⟨vs, w', hrun, hrel, hd⟩ := hop _ _ o _ _ env a w hs (ho0.le hle) hbaseL hf
          simp only [Oper.wp, hrun, Oper.upon]
          refine Calls.mono (hcall _ g args σ' _ env w' vs hc (ho0.le hle) hrel hd) ?_
          rintro e w'' ⟨x, hx, env', v, rfl, hle', hrel', hdv⟩
          obtain rfl := List.mem_singleton.1 hx
          exact hnext (mv i) env' _ w'' v m2 (by omega) (Nat.le_refl _) hun (hle.trans' hle') hle'.toext (hrL.unbase hrel') (finv' (hfiL.step hnxL hle' hrel')) hdv rfl
end Go.Proofs.YthenjjonphoklaaGreatDoor
