/-
  A region that draws its order of evaluation, walked in the text's order alone.
  The operations' values hang on no order where a world law S stands: every operation, from whatever world that meets S, gives one and the same value and leaves a world that meets S.
-/
import Derived.Orders
import Derived.Tactics
import Derived.KernelRfl
set_option linter.unusedVariables false
set_option linter.unusedSimpArgs false
namespace Go.Proofs.YthenjjonphoklaaGreatDoor
open Go

section
variable {P : Program} {S : World → Prop} {ops : Array Oper} {Q : Exit → Act → World → Prop}

/-- One operation's outcome: the value v, and a world that meets S. -/
def Gives (P : Program) (S : World → Prop) (v : Value) : Result Next → Prop
  | .ok (.value u) w' => u = v ∧ S w'
  | .ok .skip w' => v = undef ∧ S w'
  | .ok (.enter f args) w' => Calls P f args w' fun e w'' => e = .returned v ∧ S w''
  | _ => False

theorem Gives.upon {v : Value} {r : Result Next} (h : Gives P S v r) {o : Oper} {a : Act} {next : Act → World → Prop} (hn : ∀ w', S w' → next (a.put o.dst v) w') : o.upon P a next Q r := by
  cases r with
  | halt x w => exact h.elim
  | ok x w =>
    cases x <;> simp only [Gives] at h
    case value u => obtain ⟨rfl, hs⟩ := h; exact hn _ hs
    case skip => obtain ⟨rfl, hs⟩ := h; exact hn _ hs
    case enter f args =>
      refine Calls.mono h ?_
      rintro e w'' ⟨rfl, hs⟩
      exact hn _ hs

/-- One operation, in the frame a, in whatever world that meets S. -/
def StepS (P : Program) (S : World → Prop) (ops : Array Oper) (o : Oper) (a : Act) (v : Value) : Prop :=
  (Region.wanted o (yielded ops a.tmps) = false ∧ v = undef) ∨
  (Region.wanted o (yielded ops a.tmps) = true ∧ ∀ w, S w → Gives P S v ((execOp a.eval o).run P w))

/-- The operations one after the other, in the text's order. -/
def InText (P : Program) (S : World → Prop) (ops : Array Oper) (K : Act → Prop) : List Oper → Act → Prop
  | [], a => K a
  | o :: rest, a => ∃ v, StepS P S ops o a v ∧ InText P S ops K rest (a.put o.dst v)

/-- What the text must keep: every binding need points back; what an operation looks at is needed by it; no two write one slot. -/
def textual (ops : Array Oper) : Bool :=
  Region.noSelect ops &&
  (List.range ops.size).all fun i => match ops[i]? with
    | none => true
    | some o => o.after.all (fun e => !Region.binds .any e || decide (e.on < i)) &&
      (List.range ops.size).all fun j => match (ops[j]?).bind (·.dst) with
        | none => true
        | some d => (!(o.looksAt ops).contains d || (decide (j < i) && o.after.any fun e => Region.binds .any e && e.on == j)) && (j == i || o.dst != some d)

theorem textual_spec (h : textual ops = true) (i : Nat) (o : Oper) (ho : ops[i]? = some o) :
    (∀ e ∈ o.after, Region.binds .any e = true → e.on < i) ∧
    (∀ j d, (ops[j]?).bind (·.dst) = some d → d ∈ o.looksAt ops → j < i ∧ ∃ e ∈ o.after, Region.binds .any e = true ∧ e.on = j) ∧
    (∀ j d, (ops[j]?).bind (·.dst) = some d → o.dst = some d → j = i) := by
  have hi : i < ops.size := (Array.getElem?_eq_some_iff.1 ho).1
  unfold textual at h
  simp only [Bool.and_eq_true, List.all_eq_true, List.mem_range] at h
  have h1 := h.2 i hi
  simp only [ho, Bool.and_eq_true, Array.all_eq_true_iff_forall_mem, List.all_eq_true, List.mem_range] at h1
  have hj : ∀ j d, (ops[j]?).bind (·.dst) = some d → j < ops.size := by
    intro j d hd
    cases hx : ops[j]? with
    | none => rw [hx] at hd; cases hd
    | some x => exact (Array.getElem?_eq_some_iff.1 hx).1
  refine ⟨fun e he hb => ?_, fun j d hd hl => ?_, fun j d hd hl => ?_⟩
  · have := h1.1 e he
    simpa [hb] using this
  · have := h1.2 j (hj j d hd)
    simp only [hd, Bool.and_eq_true, Bool.or_eq_true] at this
    rcases this.1 with h2 | h2
    · simp [hl] at h2
    · simp only [decide_eq_true_eq, Array.any_eq_true'] at h2
      obtain ⟨h3, e, he, h4⟩ := h2
      simp only [Bool.and_eq_true, beq_iff_eq] at h4
      exact ⟨h3, e, he, h4.1, h4.2⟩
  · have := h1.2 j (hj j d hd)
    simp only [hd, Bool.and_eq_true, Bool.or_eq_true] at this
    rcases this.2 with h2 | h2
    · simpa using h2
    · simp [hl] at h2

/-- The slot of an operation. -/
def slotOf (ops : Array Oper) (k : Nat) : Option Tmp := (ops[k]?).bind (·.dst)

/-- The frame in which the marked operations among the first k are done. -/
def fill (ops : Array Oper) (f : Nat → Value) (a : Act) (m : Nat → Bool) : Nat → Act
  | 0 => a
  | k + 1 => if m k then (fill ops f a m k).put (slotOf ops k) (f k) else fill ops f a m k

theorem fill_congr {f g : Nat → Value} {a : Act} {m m' : Nat → Bool} : ∀ k, (∀ j < k, m j = m' j) → (∀ j < k, f j = g j) → fill ops f a m k = fill ops g a m' k := by
  intro k
  induction k with
  | zero => intro _ _; rfl
  | succ k ih =>
    intro h1 h2
    simp only [fill]
    rw [ih (fun j hj => h1 j (by omega)) (fun j hj => h2 j (by omega)), h1 k (by omega), h2 k (by omega)]

theorem fill_set {f : Nat → Value} {a : Act} {m : Nat → Bool} {i : Nat} (hd : ∀ j d, slotOf ops j = some d → slotOf ops i = some d → j = i) (hm : m i = false) :
    ∀ k, i < k → fill ops f a (fun j => m j || j == i) k = (fill ops f a m k).put (slotOf ops i) (f i) := by
  intro k
  induction k with
  | zero => intro h; omega
  | succ k ih =>
    intro h
    simp only [fill]
    by_cases hk : k = i
    · subst hk
      simp only [hm, BEq.rfl, Bool.or_true, if_true, Bool.false_eq_true, if_false]
      rw [fill_congr (m' := m) (g := f) k (fun j hj => by simp; omega) (fun _ _ => rfl)]
    · rw [ih (by omega)]
      have hb : (k == i) = false := by simpa using hk
      simp only [hb, Bool.or_false]
      split
      · exact Act.put_comm _ _ _ fun d h1 h2 => hk (hd k d h2 h1)
      · rfl

theorem size_put (a : Act) (d : Option Tmp) (v : Value) : (a.put d v).tmps.size = a.tmps.size := by
  cases d <;> simp [Act.put]
theorem fill_size {f : Nat → Value} {a : Act} {m : Nat → Bool} : ∀ k, (fill ops f a m k).tmps.size = a.tmps.size := by
  intro k
  induction k with
  | zero => rfl
  | succ k ih => simp only [fill]; split <;> simp [size_put, ih]

theorem fill_look {f : Nat → Value} {a : Act} {m m' : Nat → Bool} {t : Tmp} : ∀ k, (∀ j < k, slotOf ops j = some t → m j = m' j) →
    (fill ops f a m k).tmps[t]? = (fill ops f a m' k).tmps[t]? := by
  intro k
  induction k with
  | zero => intro _; rfl
  | succ k ih =>
    intro h
    have ih := ih fun j hj => h j (by omega)
    have hs := (fill_size (ops := ops) (f := f) (a := a) (m := m) k).trans (fill_size (ops := ops) (f := f) (a := a) (m := m') k).symm
    simp only [fill]
    by_cases ht : slotOf ops k = some t
    · rw [h k (by omega) ht]
      split
      · simp only [ht, Act.put, Array.getElem?_setIfInBounds_self, hs]
      · exact ih
    · have hp : ∀ b : Act, (b.put (slotOf ops k) (f k)).tmps[t]? = b.tmps[t]? := by
        intro b
        cases hk : slotOf ops k with
        | none => rfl
        | some d => simp only [Act.put]; rw [Array.getElem?_setIfInBounds_ne]; intro e; subst e; exact ht hk
      split <;> split <;> simp only [hp, ih]

/-- How many of the first k are not listed. -/
def unlisted (L : Array Bool) : Nat → Nat
  | 0 => 0
  | k + 1 => unlisted L k + (if L.getD k true then 0 else 1)

theorem unlisted_set {L : Array Bool} {i : Nat} (hi : L.getD i true = false) : ∀ k, (k ≤ i → unlisted (L.setIfInBounds i true) k = unlisted L k) ∧ (i < k → unlisted (L.setIfInBounds i true) k + 1 = unlisted L k) := by
  intro k
  have hlt : i < L.size := by
    rcases Nat.lt_or_ge i L.size with h | h
    · exact h
    · simp [Array.getElem?_eq_none h] at hi
  induction k with
  | zero => exact ⟨fun _ => rfl, fun h => by omega⟩
  | succ k ih =>
    constructor
    · intro h
      simp only [unlisted]
      rw [ih.1 (by omega), getD_set_ne true (by omega)]
    · intro h
      simp only [unlisted]
      by_cases hk : k = i
      · subst hk
        rw [ih.1 (Nat.le_refl _), hi]
        have : (L.setIfInBounds k true).getD k true = true := by simp [hlt]
        rw [this]; rfl
      · rw [getD_set_ne true (Ne.symm hk)]
        have := ih.2 (by omega)
        omega

theorem unlisted_zero {L : Array Bool} : ∀ k, unlisted L k = 0 → ∀ j < k, L.getD j true = true := by
  intro k
  induction k with
  | zero => intro _ j hj; omega
  | succ k ih =>
    intro h j hj
    simp only [unlisted] at h
    by_cases hk : j = k
    · subst hk
      cases hx : L.getD j true with
      | true => rfl
      | false => rw [hx] at h; simp at h
    · exact ih (by omega) j (by omega)

theorem getD_both {L : Array Bool} {j : Nat} (h : j < L.size) : L.getD j false = L.getD j true := by simp [h]

theorem all_listed (ht : textual ops = true) {L : Array Bool} (hs : L.size = ops.size) (hr : Region.ready .any ops L = []) : ∀ j, j < ops.size → L.getD j false = true := by
  intro j
  induction j using Nat.strongRecOn with
  | _ j ih =>
    intro hj
    cases hx : L.getD j false with
    | true => rfl
    | false =>
      have ho : ops[j]? = some ops[j] := Array.getElem?_eq_getElem hj
      have hmem : j ∈ Region.ready .any ops L := mem_ready.2 ⟨by rw [← getD_both (by omega)]; exact hx, _, ho, fun e he hb => by
        have h1 := (textual_spec ht j _ ho).1 e he hb
        exact ih _ h1 (by omega)⟩
      rw [hr] at hmem; cases hmem

theorem StepS.congr {o : Oper} {a a' : Act} {v : Value} (hs : ∀ cs b, o.op ≠ .select cs b) (h : ∀ t, t ∈ o.looksAt ops → a'.tmps[t]? = a.tmps[t]?) (hh : StepS P S ops o a v) : StepS P S ops o a' v := by
  have h1 : Region.wanted o (yielded ops a'.tmps) = Region.wanted o (yielded ops a.tmps) := by
    unfold Region.wanted
    cases hg : o.guard with
    | none => rfl
    | some gw =>
      obtain ⟨g, want⟩ := gw
      have : yielded ops a'.tmps g = yielded ops a.tmps g := by
        unfold yielded
        cases ht : (ops[g]?).bind (·.dst) with
        | none => rfl
        | some t =>
          have := h t (by simp [Oper.looksAt, hg, ht])
          simp [this]
      simp only [this]
  have h2 : execOp a'.eval o = execOp a.eval o := by
    refine execOp_congr o hs fun x hx => ?_
    cases x with
    | tmp t =>
      have := h t (List.mem_append_left _ (List.mem_filterMap.2 ⟨.tmp t, by simpa using hx, rfl⟩))
      simp [Act.eval, this]
    | _ => rfl
  unfold StepS at *
  rw [h1, h2]
  exact hh

theorem orderly_any (ht : textual ops = true) (f : Nat → Value) (a0 : Act)
    (hst : ∀ i o, ops[i]? = some o → StepS P S ops o (fill ops f a0 (fun _ => true) i) (f i))
    (hQ : ∀ w, S w → Q .normal (fill ops f a0 (fun _ => true) ops.size) w) :
    ∀ (fuel : Nat) (L : Array Bool) (a : Act) (w : World), L.size = ops.size → unlisted L ops.size ≤ fuel → a = fill ops f a0 (fun j => L.getD j false) ops.size → S w →
      wpAny P .any ops Q fuel L a w := by
  have hns : Region.noSelect ops = true := by unfold textual at ht; simp only [Bool.and_eq_true] at ht; exact ht.1
  have hend : ∀ (L : Array Bool) (a : Act) (w : World), L.size = ops.size → a = fill ops f a0 (fun j => L.getD j false) ops.size → S w → Region.ready .any ops L = [] → Q .normal a w := by
    intro L a w hL ha hw hr
    have := all_listed ht hL hr
    rw [ha, fill_congr (m' := fun _ => true) (g := f) ops.size this (fun _ _ => rfl)]
    exact hQ w hw
  intro fuel
  induction fuel with
  | zero =>
    intro L a w hL hu ha hw
    have hr : Region.ready .any ops L = [] := by
      rcases hx : Region.ready .any ops L with _ | ⟨i, xs⟩
      · rfl
      · have hi : i ∈ Region.ready .any ops L := by rw [hx]; exact List.mem_cons_self
        obtain ⟨h0, o, ho, _⟩ := mem_ready.1 hi
        have := unlisted_zero (L := L) ops.size (by omega) i (Array.getElem?_eq_some_iff.1 ho).1
        rw [h0] at this; cases this
    exact ⟨hr, hend L a w hL ha hw hr⟩
  | succ fuel ih =>
    intro L a w hL hu ha hw
    refine ⟨hend L a w hL ha hw, fun i hi => ?_⟩
    obtain ⟨h0, o, ho, hall⟩ := mem_ready.1 hi
    have hlt : i < ops.size := (Array.getElem?_eq_some_iff.1 ho).1
    have hsp := textual_spec ht i o ho
    have hslot : slotOf ops i = o.dst := by unfold slotOf; rw [ho]; rfl
    have hfal : L.getD i false = false := by rw [getD_both (by omega)]; exact h0
    -- the frame at hand gives what the text's frame gives
    have hstep : StepS P S ops o a (f i) := by
      refine (hst i o ho).congr (fun cs b => Region.noSelect_spec hns i o cs b ho) fun t hmem => ?_
      have e1 : fill ops f a0 (fun _ => true) i = fill ops f a0 (fun j => decide (j < i)) i := fill_congr i (fun j hj => by simp [hj]) (fun _ _ => rfl)
      have e2 : ∀ k, i ≤ k → fill ops f a0 (fun j => decide (j < i)) k = fill ops f a0 (fun j => decide (j < i)) i := by
        intro k
        induction k with
        | zero => intro h; rw [Nat.le_zero.1 h]
        | succ k ihk =>
          intro h
          rcases Nat.lt_or_ge k i with h' | h'
          · rw [show k + 1 = i by omega]
          · have : decide (k < i) = false := by simp; omega
            simp only [fill, this, Bool.false_eq_true, if_false]
            exact ihk h'
      rw [e1, ← e2 ops.size (by omega), ha]
      refine fill_look ops.size fun j hj hjt => ?_
      obtain ⟨h1, e, he, hb, rfl⟩ := hsp.2.1 j t hjt hmem
      rw [hall e he hb]; simp [h1]
    -- behind it
    have hnext : ∀ w', S w' → wpAny P .any ops Q fuel (L.setIfInBounds i true) (a.put o.dst (f i)) w' := by
      intro w' hw'
      refine ih _ _ _ (by simp [hL]) ?_ ?_ hw'
      · have := (unlisted_set h0 ops.size).2 hlt
        omega
      · have := fill_set (ops := ops) (f := f) (a := a0) (m := fun j => L.getD j false) (i := i) (fun j d h1 h2 => hsp.2.2 j d h1 (hslot ▸ h2)) hfal ops.size hlt
        rw [hslot] at this
        rw [ha, ← this]
        refine fill_congr _ (fun j hj => ?_) (fun _ _ => rfl)
        by_cases hji : j = i
        · subst hji
          have : j < L.size := by omega
          simp [this]
        · rw [getD_set_ne false (Ne.symm hji)]; simp [hji]
    unfold wpOp
    simp only [ho]
    rcases hstep with ⟨h1, h2⟩ | ⟨h1, h2⟩
    · rw [h1]
      simp only [Bool.false_eq_true, if_false]
      rw [h2] at hnext
      exact hnext w hw
    · rw [h1]
      simp only [if_true]
      exact .inl ((h2 w hw).upon hnext)

theorem inText_values {K : Act → Prop} (a0 : Act) : ∀ (l : List Oper) (k : Nat) (f : Nat → Value), k + l.length = ops.size → ops.toList.drop k = l →
    InText P S ops K l (fill ops f a0 (fun _ => true) k) →
    ∃ g : Nat → Value, (∀ j < k, g j = f j) ∧ (∀ i o, k ≤ i → ops[i]? = some o → StepS P S ops o (fill ops g a0 (fun _ => true) i) (g i)) ∧ K (fill ops g a0 (fun _ => true) ops.size) := by
  intro l
  induction l with
  | nil =>
    intro k f hk hd h
    have hk : k = ops.size := by simpa using hk
    refine ⟨f, fun _ _ => rfl, fun i o hi ho => ?_, ?_⟩
    · have := (Array.getElem?_eq_some_iff.1 ho).1; omega
    · rw [← hk]; exact h
  | cons o rest ih =>
    intro k f hk hd h
    obtain ⟨v, h1, h2⟩ := h
    have hlt : k < ops.size := by simp at hk; omega
    have ho : ops[k]? = some o := by
      have : (ops.toList.drop k)[0]? = some o := by rw [hd]; rfl
      rw [List.getElem?_drop] at this
      simpa using this
    have hslot : slotOf ops k = o.dst := by unfold slotOf; rw [ho]; rfl
    let f1 : Nat → Value := fun j => if j = k then v else f j
    have e1 : fill ops f1 a0 (fun _ => true) k = fill ops f a0 (fun _ => true) k := fill_congr k (fun _ _ => rfl) (fun j hj => by simp only [f1]; rw [if_neg (by omega)])
    have e2 : fill ops f1 a0 (fun _ => true) (k + 1) = (fill ops f a0 (fun _ => true) k).put o.dst v := by
      simp only [fill, if_true]
      rw [e1, hslot]
      simp only [f1, if_true]
    obtain ⟨g, g1, g2, g3⟩ := ih (k + 1) f1 (by simp at hk; omega) (by rw [← List.drop_drop, hd]; rfl) (by rw [e2]; exact h2)
    refine ⟨g, fun j hj => ?_, fun i o' hi ho' => ?_, g3⟩
    · rw [g1 j (by omega)]; simp only [f1]; rw [if_neg (by omega)]
    · by_cases hik : i = k
      · subst hik
        rw [ho] at ho'
        obtain rfl := Option.some.inj ho'
        have e3 : fill ops g a0 (fun _ => true) i = fill ops f a0 (fun _ => true) i := (fill_congr i (fun _ _ => rfl) (fun j hj => g1 j (by omega))).trans e1
        rw [e3, g1 i (by omega)]
        simpa only [f1, if_true] using h1
      · exact g2 i o' (by omega) ho'

theorem unlisted_none (n : Nat) : unlisted (Array.replicate n false) n ≤ n := by
  have : ∀ k, unlisted (Array.replicate n false) k ≤ k := by
    intro k
    induction k with
    | zero => exact Nat.le_refl _
    | succ k ih => simp only [unlisted]; split <;> omega
  exact this n

/-- A region that draws its order, walked in the text's order under the law S. -/
theorem wp_region_text (S : World → Prop) {id : Nat} {l : List Oper} {a : Act} {w : World} (hm : P.follows .mixedOrders = true) (ht : textual l.toArray = true) (hw : S w.drew)
    (h : InText P S l.toArray (fun a' => ∀ w', S w' → Q .normal a' w') l a) : (Code.region id l.toArray true).wp P Q a w := by
  obtain ⟨g, -, g2, g3⟩ := inText_values (P := P) (S := S) (ops := l.toArray) (K := fun a' => ∀ w', S w' → Q .normal a' w') a l 0 (fun _ => undef) (by simp) (by simp) h
  refine wp_region_any hm ?_
  refine orderly_any ht g a (fun i o ho => g2 i o (Nat.zero_le _) ho) g3 _ _ _ _ (by simp) (unlisted_none _) ?_ hw
  have : ∀ k, fill l.toArray g a (fun j => (Array.replicate l.toArray.size false).getD j false) k = a := by
    intro k
    induction k with
    | zero => rfl
    | succ k ih =>
      have : (Array.replicate l.toArray.size false).getD k false = false := by
        simp only [Array.getD_eq_getD_getElem?, Array.getElem?_replicate]; split <;> rfl
      simp only [fill, this, Bool.false_eq_true, if_false]; exact ih
  exact (this _).symm

theorem inText_no {K : Act → Prop} {o : Oper} {rest : List Oper} {a : Act} (hw : Region.wanted o (yielded ops a.tmps) = false) (h : InText P S ops K rest (a.put o.dst undef)) : InText P S ops K (o :: rest) a :=
  ⟨undef, .inl ⟨hw, rfl⟩, h⟩
theorem inText_val {K : Act → Prop} {o : Oper} {rest : List Oper} {a : Act} (v : Value) (hw : Region.wanted o (yielded ops a.tmps) = true) (hv : ∀ w, S w → (execOp a.eval o).run P w = .ok (.value v) w) (h : InText P S ops K rest (a.put o.dst v)) : InText P S ops K (o :: rest) a :=
  ⟨v, .inr ⟨hw, fun w hs => by rw [hv w hs]; exact ⟨rfl, hs⟩⟩, h⟩
theorem inText_call {K : Act → Prop} {o : Oper} {rest : List Oper} {a : Act} (v : Value) (f : FuncId) (args : Array Value) (hw : Region.wanted o (yielded ops a.tmps) = true) (hv : ∀ w, (execOp a.eval o).run P w = .ok (.enter f args) w)
    (hc : ∀ w, S w → Calls P f args w fun e w'' => e = .returned v ∧ S w'') (h : InText P S ops K rest (a.put o.dst v)) : InText P S ops K (o :: rest) a :=
  ⟨v, .inr ⟨hw, fun w hs => by rw [hv w]; exact hc w hs⟩, h⟩
theorem inText_bin {K : Act → Prop} {d : Option Tmp} {b : BinOp} {A B : TypeId} {x y : Operand} {T : TypeId} {pos : String} {af : Array Edge} {g : Option (Nat × Bool)} {rest : List Oper} {a : Act} (v : Value)
    (hw : Region.wanted ⟨d, .binOp b A x y B, T, pos, af, g⟩ (yielded ops a.tmps) = true) (hv : ∀ w, S w → (execOp a.eval ⟨d, .binOp b A x y B, T, pos, af, g⟩).run P w = .ok (.value v) w) (h : InText P S ops K rest (a.put d v)) : InText P S ops K (⟨d, .binOp b A x y B, T, pos, af, g⟩ :: rest) a :=
  inText_val v hw hv h
/-- A function of the program that has a body. -/
def goes (P : Program) (f : FuncId) : Bool := match P.funcs[f]? with
  | some fn => fn.body.isSome && !(fn.name == "runtime.NumGoroutine")
  | none => false
theorem run_go {f : FuncId} (hg : goes P f = true) (a : Act) (d : Option Tmp) (xs : Array Operand) (ts : Array TypeId) (T : TypeId) (pos : String) (af : Array Edge) (g : Option (Nat × Bool)) (w : World) :
    (execOp a.eval ⟨d, .call ⟨.value (.func f), xs, ts⟩, T, pos, af, g⟩).run P w = .ok (.enter f (xs.map a.eval)) w := by
  unfold goes at hg
  cases hf : P.funcs[f]? with
  | none => rw [hf] at hg; cases hg
  | some fn =>
    rw [hf] at hg
    simp only [Bool.and_eq_true, Bool.not_eq_true'] at hg
    obtain ⟨c, hb⟩ := Option.isSome_iff_exists.1 hg.1
    have e : execOp a.eval ⟨d, .call ⟨.value (.func f), xs, ts⟩, T, pos, af, g⟩ = callFunc f (#[] ++ xs.map a.eval ++ #[]) := rfl
    rw [e]
    have h1 : fn.name ≠ "runtime.NumGoroutine" := by simpa using hg.2
    simp [callFunc, hf, h1, hb]
theorem inText_go {K : Act → Prop} {d : Option Tmp} {f : FuncId} {xs : Array Operand} {ts : Array TypeId} {T : TypeId} {pos : String} {af : Array Edge} {g : Option (Nat × Bool)} {rest : List Oper} {a : Act} (args : List Value) (v : Value)
    (hw : Region.wanted ⟨d, .call ⟨.value (.func f), xs, ts⟩, T, pos, af, g⟩ (yielded ops a.tmps) = true) (hg : goes P f = true) (he : xs.toList.map a.eval = args)
    (hc : ∀ w, S w → Calls P f args.toArray w fun e w'' => e = .returned v ∧ S w'') (h : InText P S ops K rest (a.put d v)) : InText P S ops K (⟨d, .call ⟨.value (.func f), xs, ts⟩, T, pos, af, g⟩ :: rest) a :=
  ⟨v, .inr ⟨hw, fun w hs => by rw [run_go hg, show xs.map a.eval = args.toArray from by obtain ⟨xs⟩ := xs; subst he; exact List.map_toArray]; exact hc w hs⟩, h⟩
end
end Go.Proofs.YthenjjonphoklaaGreatDoor
