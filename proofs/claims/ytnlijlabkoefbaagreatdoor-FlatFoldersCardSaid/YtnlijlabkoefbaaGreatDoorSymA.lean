/-
  THE EXECUTOR, part A: symbolic values, the symbolic heap, and what they stand for in a world.
-/
import Derived.Orders
import Derived.Tactics
import Derived.KernelRfl
import Derived.Below
set_option linter.unusedVariables false
set_option linter.unusedSimpArgs false
namespace Go.Proofs.YtnlijlabkoefbaaGreatDoor
open Go

/-- A slice's capacity: known, or what is left of its row behind so many elements. -/
inductive SCap where
  | lit (c : Nat)
  | rest (d : Nat)

/-- A symbolic value: blocks have names. -/
inductive SV where
  | int (k : IntKind) (n : Int)
  | bool (b : Bool)
  | str (l : List Nat)
  | undef
  | nilp
  | ptr (n off : Nat)
  | gptr (g off : Nat)
  | slice (n off len : Nat) (cap : SCap)
  | nils
  | zslice (n off a z d : Nat)
  | map (n : Nat)
  | nilm
  | fn (f : Fn) (first captured : List SV)
  | nilf
  | iface (t : TypeId) (v : SV)
  | nili
  | agg (l : List SV)
  | tuple (l : List SV)
  | opq (i : Nat)
  | num (i : Nat) (fs : List (Nat × Nat)) (u : Bool)

/-- Where the named blocks lie, how many elements their rows hold, and the values that nobody looks into. -/
structure Env where
  blocks : Nat → Option (Nat × Nat)
  next : Nat
  given : Nat → Value

/-- A number of which some remainders are known. -/
def remsOk (v : Int) : List (Nat × Nat) → Bool
  | [] => true
  | (m, r) :: t => decide (IntKind.u64.wrap v % (m : Nat) = (r : Nat)) && remsOk v t
def numOf' (x : Value) (fs : List (Nat × Nat)) (u : Bool) : Option Value := match x with
  | .int .i64 v => if remsOk v fs then some (if u then .int .u64 (IntKind.u64.wrap v) else .int .i64 v) else none
  | _ => none

def bytesOf (l : List Nat) : ByteArray := ⟨(l.map UInt8.ofNat).toArray⟩
def capOf (c : Nat) : SCap → Nat
  | .lit n => n
  | .rest d => c - d

mutual
/-- The value that a symbolic one stands for. -/
def den (env : Env) : SV → Option Value
  | .int k n => some (.int k n)
  | .bool b => some (.bool b)
  | .str l => some (.string (bytesOf l))
  | .undef => some Go.undef
  | .nilp => some (.pointer none)
  | .ptr n off => match env.blocks n with
    | some b => some (.pointer (some ⟨b.1, off, none⟩))
    | none => none
  | .gptr g off => some (.pointer (some ⟨g, off, none⟩))
  | .slice n off len c => match env.blocks n with
    | some b => some (.slice (some ⟨b.1, off, none⟩) len (capOf b.2 c))
    | none => none
  | .nils => some (.slice none 0 0)
  | .zslice n off a z d => match env.blocks n with
    | some b => some (.slice (some ⟨b.1, if b.2 - d = a then off else off + a * z, none⟩) 0 (b.2 - d - a))
    | none => none
  | .map n => match env.blocks n with
    | some b => some (.map (some b.1))
    | none => none
  | .nilm => some (.map none)
  | .fn f first captured => match denL env first, denL env captured with
    | some a, some b => some (.func f a.toArray b.toArray)
    | _, _ => none
  | .nilf => some .nilFunc
  | .iface t v => match den env v with
    | some x => some (.iface t x)
    | none => none
  | .nili => some .nilIface
  | .agg l => match denL env l with
    | some vs => some (.agg vs.toArray)
    | none => none
  | .tuple l => match denL env l with
    | some vs => some (.tuple vs.toArray)
    | none => none
  | .opq i => some (env.given i)
  | .num i fs u => numOf' (env.given i) fs u
def denL (env : Env) : List SV → Option (List Value)
  | [] => some []
  | x :: r => match den env x, denL env r with
    | some v, some vs => some (v :: vs)
    | _, _ => none
end

/-- An environment that knows more; some names may have come to stand for blocks. -/
structure Env.ext (e e' : Env) : Prop where
  given : e'.given = e.given
  some : ∀ (n : Nat) (b : Nat × Nat), e.blocks n = .some b → e'.blocks n = .some b
/-- An environment that knows more: new names alone. -/
structure Env.le (e e' : Env) : Prop extends Env.ext e e' where
  next : e.next ≤ e'.next
  same : ∀ n, n < e.next → e'.blocks n = e.blocks n
theorem Env.le_refl (e : Env) : e.le e := ⟨⟨rfl, fun _ _ h => h⟩, Nat.le_refl _, fun _ _ => rfl⟩
theorem Env.ext_trans {a b c : Env} (h : a.ext b) (k : b.ext c) : a.ext c := ⟨k.given.trans h.given, fun n x hx => k.some n x (h.some n x hx)⟩
theorem Env.le_trans {a b c : Env} (h : a.le b) (k : b.le c) : a.le c := ⟨Env.ext_trans h.toext k.toext, Nat.le_trans h.next k.next, fun n hn => (k.same n (Nat.lt_of_lt_of_le hn h.next)).trans (h.same n hn)⟩
theorem Env.le.trans' {a b c : Env} (h : a.le b) (k : b.le c) : a.le c := Env.le_trans h k
def Env.push (e : Env) (n b c : Nat) : Env := { e with blocks := fun m => if m = n then some (b, c) else e.blocks m, next := n + 1 }
theorem Env.new (e : Env) (n b c : Nat) : (e.push n b c).blocks n = some (b, c) := by simp [Env.push]
theorem Env.push_ne (e : Env) {n m : Nat} (b c : Nat) (h : m ≠ n) : (e.push n b c).blocks m = e.blocks m := by simp [Env.push, h]
theorem Env.le_push (e : Env) (n b c : Nat) (h : e.blocks n = none) (hn : e.next = n) : e.le (e.push n b c) := ⟨⟨rfl, fun m x hx => by
  by_cases hm : m = n
  · subst hm; rw [h] at hx; cases hx
  · rw [Env.push_ne e b c hm]; exact hx⟩, by show e.next ≤ n + 1; omega, fun m hm => Env.push_ne e b c (by omega)⟩

mutual
theorem den_ext {e e' : Env} (h : e.ext e') : ∀ (s : SV) (v : Value), den e s = some v → den e' s = some v
  | .int _ _, v, hv | .bool _, v, hv | .str _, v, hv | .undef, v, hv | .nilp, v, hv | .gptr _ _, v, hv | .nils, v, hv | .nilm, v, hv | .nilf, v, hv | .nili, v, hv => by simpa only [den] using hv
  | .ptr n off, v, hv => by
    simp only [den] at hv ⊢
    cases hb : e.blocks n with
    | none => rw [hb] at hv; cases hv
    | some b => rw [hb] at hv; rw [h.some n b hb]; exact hv
  | .slice n off len c, v, hv => by
    simp only [den] at hv ⊢
    cases hb : e.blocks n with
    | none => rw [hb] at hv; cases hv
    | some b => rw [hb] at hv; rw [h.some n b hb]; exact hv
  | .zslice n off a z d, v, hv => by
    simp only [den] at hv ⊢
    cases hb : e.blocks n with
    | none => rw [hb] at hv; cases hv
    | some b => rw [hb] at hv; rw [h.some n b hb]; exact hv
  | .map n, v, hv => by
    simp only [den] at hv ⊢
    cases hb : e.blocks n with
    | none => rw [hb] at hv; cases hv
    | some b => rw [hb] at hv; rw [h.some n b hb]; exact hv
  | .fn f a b, v, hv => by
    simp only [den] at hv ⊢
    cases ha : denL e a with
    | none => rw [ha] at hv; cases hv
    | some x =>
      cases hb : denL e b with
      | none => rw [ha, hb] at hv; cases hv
      | some y => rw [ha, hb] at hv; rw [denL_ext h a x ha, denL_ext h b y hb]; exact hv
  | .iface t s, v, hv => by
    simp only [den] at hv ⊢
    cases ha : den e s with
    | none => rw [ha] at hv; cases hv
    | some x => rw [ha] at hv; rw [den_ext h s x ha]; exact hv
  | .agg l, v, hv => by
    simp only [den] at hv ⊢
    cases ha : denL e l with
    | none => rw [ha] at hv; cases hv
    | some x => rw [ha] at hv; rw [denL_ext h l x ha]; exact hv
  | .tuple l, v, hv => by
    simp only [den] at hv ⊢
    cases ha : denL e l with
    | none => rw [ha] at hv; cases hv
    | some x => rw [ha] at hv; rw [denL_ext h l x ha]; exact hv
  | .opq i, v, hv => by simp only [den] at hv ⊢; rw [h.given]; exact hv
  | .num i fs u, v, hv => by simp only [den] at hv ⊢; rw [h.given]; exact hv
theorem denL_ext {e e' : Env} (h : e.ext e') : ∀ (l : List SV) (vs : List Value), denL e l = some vs → denL e' l = some vs
  | [], vs, hv => by simpa only [denL] using hv
  | x :: r, vs, hv => by
    simp only [denL] at hv ⊢
    cases ha : den e x with
    | none => rw [ha] at hv; cases hv
    | some a =>
      cases hb : denL e r with
      | none => rw [ha, hb] at hv; cases hv
      | some b => rw [ha, hb] at hv; rw [den_ext h x a ha, denL_ext h r b hb]; exact hv
end

theorem den_mono {e e' : Env} (h : e.le e') (s : SV) (v : Value) (hv : den e s = some v) : den e' s = some v := den_ext h.toext s v hv
theorem denL_mono {e e' : Env} (h : e.le e') (l : List SV) (vs : List Value) (hv : denL e l = some vs) : denL e' l = some vs := denL_ext h.toext l vs hv

theorem denL_cons {e : Env} {x : SV} {r : List SV} {vs : List Value} (h : denL e (x :: r) = some vs) : ∃ v us, den e x = some v ∧ denL e r = some us ∧ vs = v :: us := by
  simp only [denL] at h
  cases ha : den e x with
  | none => rw [ha] at h; cases h
  | some a =>
    cases hb : denL e r with
    | none => rw [ha, hb] at h; cases h
    | some b => rw [ha, hb] at h; cases h; exact ⟨a, b, rfl, rfl, rfl⟩
theorem denL_mk {e : Env} {x : SV} {r : List SV} {v : Value} {us : List Value} (h1 : den e x = some v) (h2 : denL e r = some us) : denL e (x :: r) = some (v :: us) := by
  simp only [denL, h1, h2]
theorem denL_length {e : Env} : ∀ {l : List SV} {vs : List Value}, denL e l = some vs → vs.length = l.length := by
  intro l
  induction l with
  | nil => intro vs h; simp only [denL] at h; cases h; rfl
  | cons x r ih =>
    intro vs h
    obtain ⟨v, us, _, h2, rfl⟩ := denL_cons h
    simp [ih h2]
theorem denL_get {e : Env} : ∀ {l : List SV} {vs : List Value} {i : Nat} {s : SV}, denL e l = some vs → l[i]? = some s → ∃ v, vs[i]? = some v ∧ den e s = some v := by
  intro l
  induction l with
  | nil => intro vs i s _ h; simp at h
  | cons x r ih =>
    intro vs i s h hi
    obtain ⟨v, us, h1, h2, rfl⟩ := denL_cons h
    cases i with
    | zero => simp at hi; subst hi; exact ⟨v, rfl, h1⟩
    | succ i => simp at hi; obtain ⟨u, hu, hd⟩ := ih h2 hi; exact ⟨u, by simpa using hu, hd⟩
theorem denL_append {e : Env} : ∀ {l m : List SV} {vs us : List Value}, denL e l = some vs → denL e m = some us → denL e (l ++ m) = some (vs ++ us) := by
  intro l
  induction l with
  | nil => intro m vs us h h'; simp only [denL] at h; cases h; exact h'
  | cons x r ih =>
    intro m vs us h h'
    obtain ⟨v, ws, h1, h2, rfl⟩ := denL_cons h
    exact denL_mk h1 (ih h2 h')
theorem denL_take {e : Env} : ∀ {l : List SV} {vs : List Value} (n : Nat), denL e l = some vs → denL e (l.take n) = some (vs.take n) := by
  intro l
  induction l with
  | nil => intro vs n h; simp only [denL] at h; cases h; simp [denL]
  | cons x r ih =>
    intro vs n h
    obtain ⟨v, us, h1, h2, rfl⟩ := denL_cons h
    cases n with
    | zero => simp [denL]
    | succ n => exact denL_mk h1 (ih n h2)
theorem denL_drop {e : Env} : ∀ {l : List SV} {vs : List Value} (n : Nat), denL e l = some vs → denL e (l.drop n) = some (vs.drop n) := by
  intro l
  induction l with
  | nil => intro vs n h; simp only [denL] at h; cases h; simp [denL]
  | cons x r ih =>
    intro vs n h
    obtain ⟨v, us, h1, h2, rfl⟩ := denL_cons h
    cases n with
    | zero => simpa using h
    | succ n => exact ih n h2
theorem denL_set {e : Env} : ∀ {l : List SV} {vs : List Value} {i : Nat} {s : SV} {v : Value}, denL e l = some vs → den e s = some v → denL e (l.set i s) = some (vs.set i v) := by
  intro l
  induction l with
  | nil => intro vs i s v h _; simp only [denL] at h; cases h; simp [denL]
  | cons x r ih =>
    intro vs i s v h hs
    obtain ⟨u, us, h1, h2, rfl⟩ := denL_cons h
    cases i with
    | zero => exact denL_mk hs h2
    | succ i => exact denL_mk h1 (ih h2 hs)


/-- A list's element, by the recursor alone. -/
noncomputable def lget {α : Type} (l : List α) (i : Nat) : Option α :=
  @List.rec α (fun _ => Nat → Option α) (fun _ => none) (fun x _ ih i => @Nat.rec (fun _ => Option α) (some x) (fun j _ => ih j) i) l i
theorem lget_eq {α : Type} : ∀ (l : List α) (i : Nat), lget l i = l[i]? := by
  intro l
  induction l with
  | nil => intro i; rfl
  | cons x r ih =>
    intro i
    cases i with
    | zero => rfl
    | succ i => exact (ih i).trans (by simp)
noncomputable def lset {α : Type} (l : List α) (i : Nat) (v : α) : List α :=
  @List.rec α (fun _ => Nat → List α) (fun _ => []) (fun x r ih i => @Nat.rec (fun _ => List α) (v :: r) (fun j _ => x :: ih j) i) l i
theorem lset_eq {α : Type} (l : List α) (i : Nat) (v : α) : lset l i v = l.set i v := by
  induction l generalizing i with
  | nil => rfl
  | cons x r ih =>
    cases i with
    | zero => rfl
    | succ i => exact congrArg (x :: ·) (ih i)

/-- A binary tree over numbers. -/
inductive Tr (α : Type) where
  | leaf
  | node (v : Option α) (l r : Tr α)
def Tr.get {α : Type} : Nat → Tr α → Nat → Option α
  | 0, _, _ => none
  | _ + 1, .leaf, _ => none
  | f + 1, .node v l r, n => match n with
    | 0 => v
    | k + 1 => if k % 2 = 0 then l.get f (k / 2) else r.get f (k / 2)
def Tr.set {α : Type} (x : Option α) : Nat → Tr α → Nat → Tr α
  | 0, t, _ => t
  | f + 1, .leaf, n => match n with
    | 0 => .node x .leaf .leaf
    | k + 1 => if k % 2 = 0 then .node none (Tr.set x f .leaf (k / 2)) .leaf else .node none .leaf (Tr.set x f .leaf (k / 2))
  | f + 1, .node v l r, n => match n with
    | 0 => .node x l r
    | k + 1 => if k % 2 = 0 then .node v (Tr.set x f l (k / 2)) r else .node v l (Tr.set x f r (k / 2))
theorem Tr.get_leaf {α : Type} : ∀ (f n : Nat), (Tr.leaf : Tr α).get f n = none := by
  intro f n; cases f <;> rfl
theorem Tr.get_set_ne {α : Type} (x : Option α) : ∀ (f : Nat) (t : Tr α) (n m : Nat), n ≠ m → (t.set x f n).get f m = t.get f m := by
  intro f
  induction f with
  | zero => intro t n m _; rfl
  | succ f ih =>
    intro t n m h
    cases t with
    | leaf =>
      cases n with
      | zero => cases m with
        | zero => exact absurd rfl h
        | succ m => simp only [Tr.set, Tr.get]; split <;> exact Tr.get_leaf _ _
      | succ n => cases m with
        | zero => simp only [Tr.set]; split <;> simp only [Tr.get]
        | succ m =>
          simp only [Tr.set]
          by_cases hn : n % 2 = 0 <;> by_cases hm : m % 2 = 0 <;> simp only [hn, hm, if_true, if_false, Tr.get, Tr.get_leaf]
          · rw [ih _ _ _ (by omega), Tr.get_leaf]
          · rw [ih _ _ _ (by omega), Tr.get_leaf]
    | node v l r =>
      cases n with
      | zero => cases m with
        | zero => exact absurd rfl h
        | succ m => rfl
      | succ n => cases m with
        | zero => simp only [Tr.set]; split <;> simp only [Tr.get]
        | succ m =>
          simp only [Tr.set]
          by_cases hn : n % 2 = 0 <;> by_cases hm : m % 2 = 0 <;> simp only [hn, hm, if_true, if_false, Tr.get]
          · exact ih _ _ _ (by omega)
          · exact ih _ _ _ (by omega)
theorem Tr.get_set {α : Type} (x : Option α) : ∀ (f : Nat) (t : Tr α) (n : Nat) (y : α), (t.set x f n).get f n = some y → x = some y ∨ t.get f n = some y := by
  intro f
  induction f with
  | zero => intro t n y h; exact .inr h
  | succ f ih =>
    intro t n y h
    cases t with
    | leaf =>
      cases n with
      | zero => exact .inl h
      | succ n =>
        simp only [Tr.set] at h
        by_cases hn : n % 2 = 0 <;> simp only [hn, if_true, if_false, Tr.get] at h
        · rcases ih _ _ _ h with h | h
          · exact .inl h
          · rw [Tr.get_leaf] at h; cases h
        · rcases ih _ _ _ h with h | h
          · exact .inl h
          · rw [Tr.get_leaf] at h; cases h
    | node v l r =>
      cases n with
      | zero => exact .inl h
      | succ n =>
        simp only [Tr.set, Tr.get] at h ⊢
        by_cases hn : n % 2 = 0 <;> simp only [hn, if_true, if_false, Tr.get] at h ⊢
        · exact ih _ _ _ h
        · exact ih _ _ _ h

theorem Tr.get_set_eq {α : Type} (x : Option α) : ∀ (f : Nat) (t : Tr α) (n : Nat), n + 1 < 2 ^ f → (t.set x f n).get f n = x := by
  intro f
  induction f with
  | zero => intro t n h; simp at h
  | succ f ih =>
    intro t n h
    rw [Nat.pow_succ] at h
    cases t with
    | leaf =>
      cases n with
      | zero => rfl
      | succ n =>
        simp only [Tr.set]
        by_cases hn : n % 2 = 0 <;> simp only [hn, if_true, if_false, Tr.get]
        · exact ih _ _ (by omega)
        · exact ih _ _ (by omega)
    | node v l r =>
      cases n with
      | zero => rfl
      | succ n =>
        simp only [Tr.set]
        by_cases hn : n % 2 = 0 <;> simp only [hn, if_true, if_false, Tr.get]
        · exact ih _ _ (by omega)
        · exact ih _ _ (by omega)

/-- The same, by the recursors alone. -/
noncomputable def Tr.getR {α : Type} (f : Nat) : Tr α → Nat → Option α :=
  @Nat.rec (fun _ => Tr α → Nat → Option α) (fun _ _ => none) (fun _ ih t n => @Tr.casesOn α (fun _ => Option α) t none (fun v l r => @Nat.casesOn (fun _ => Option α) n v (fun k => @Bool.rec (fun _ => Option α) (ih r (Nat.div k 2)) (ih l (Nat.div k 2)) (Nat.beq (Nat.mod k 2) 0)))) f
theorem Tr.getR_eq {α : Type} : ∀ (f : Nat) (t : Tr α) (n : Nat), Tr.getR f t n = t.get f n := by
  intro f
  induction f with
  | zero => intro t n; rfl
  | succ f ih =>
    intro t n
    cases t with
    | leaf => rfl
    | node v l r =>
      cases n with
      | zero => rfl
      | succ k =>
        show @Bool.rec (fun _ => Option α) (Tr.getR f r (k / 2)) (Tr.getR f l (k / 2)) (Nat.beq (k % 2) 0) = _
        simp only [Tr.get]
        by_cases hk : k % 2 = 0
        · rw [if_pos hk, hk]; exact ih l _
        · rw [if_neg hk]
          have : Nat.beq (k % 2) 0 = false := by
            cases hb : Nat.beq (k % 2) 0 with
            | false => rfl
            | true => exact absurd (Nat.eq_of_beq_eq_true hb) hk
          rw [this]; exact ih r _
noncomputable def Tr.setR {α : Type} (x : Option α) (f : Nat) : Tr α → Nat → Tr α :=
  @Nat.rec (fun _ => Tr α → Nat → Tr α) (fun t _ => t) (fun _ ih t n => @Tr.casesOn α (fun _ => Tr α) t
    (@Nat.casesOn (fun _ => Tr α) n (.node x .leaf .leaf) (fun k => @Bool.rec (fun _ => Tr α) (.node none .leaf (ih .leaf (Nat.div k 2))) (.node none (ih .leaf (Nat.div k 2)) .leaf) (Nat.beq (Nat.mod k 2) 0)))
    (fun v l r => @Nat.casesOn (fun _ => Tr α) n (.node x l r) (fun k => @Bool.rec (fun _ => Tr α) (.node v l (ih r (Nat.div k 2))) (.node v (ih l (Nat.div k 2)) r) (Nat.beq (Nat.mod k 2) 0)))) f
theorem Tr.setR_eq {α : Type} (x : Option α) : ∀ (f : Nat) (t : Tr α) (n : Nat), Tr.setR x f t n = t.set x f n := by
  intro f
  induction f with
  | zero => intro t n; rfl
  | succ f ih =>
    intro t n
    have hb : ∀ k : Nat, ¬ k % 2 = 0 → Nat.beq (k % 2) 0 = false := fun k hk => by
      cases hb : Nat.beq (k % 2) 0 with
      | false => rfl
      | true => exact absurd (Nat.eq_of_beq_eq_true hb) hk
    cases t with
    | leaf =>
      cases n with
      | zero => rfl
      | succ k =>
        show @Bool.rec (fun _ => Tr α) (.node none .leaf (Tr.setR x f .leaf (k / 2))) (.node none (Tr.setR x f .leaf (k / 2)) .leaf) (Nat.beq (k % 2) 0) = _
        simp only [Tr.set]
        by_cases hk : k % 2 = 0
        · rw [if_pos hk, hk, ← ih]; rfl
        · rw [if_neg hk, hb k hk, ← ih]
    | node v l r =>
      cases n with
      | zero => rfl
      | succ k =>
        show @Bool.rec (fun _ => Tr α) (.node v l (Tr.setR x f r (k / 2))) (.node v (Tr.setR x f l (k / 2)) r) (Nat.beq (k % 2) 0) = _
        simp only [Tr.set]
        by_cases hk : k % 2 = 0
        · rw [if_pos hk, hk, ← ih]; rfl
        · rw [if_neg hk, hb k hk, ← ih]

/-- A symbolic block: cells (exact: these are all of them), or a map's entries. -/
inductive SO where
  | cells (l : List SV) (e : TypeId) (exact : Bool)
  | map (es : List (SV × SV))
  | siter (l : List Nat) (pos : Nat)
  | miter (m : SV) (since : Nat) (seen : List Nat) (last : Nat)

/-- The symbolic heap. -/
structure SH where
  next : Nat
  tr : Tr SO
def fuelT : Nat := 40
noncomputable def SH.get (σ : SH) (n : Nat) : Option SO := @Bool.rec (fun _ => Option SO) none (Tr.getR fuelT σ.tr n) (Nat.blt n 1000000000)
noncomputable def SH.put (σ : SH) (n : Nat) (o : Option SO) : SH := ⟨σ.next, Tr.setR o fuelT σ.tr n⟩
noncomputable def SH.push (σ : SH) (o : SO) : SH := ⟨Nat.add σ.next 1, Tr.setR (some o) fuelT σ.tr σ.next⟩
theorem SH.get_eq (σ : SH) (n : Nat) : σ.get n = if n < 1000000000 then σ.tr.get fuelT n else none := by
  unfold SH.get
  rw [Tr.getR_eq]
  by_cases h : n < 1000000000
  · rw [if_pos h]
    have : Nat.blt n 1000000000 = true := Nat.ble_eq_true_of_le h
    rw [this]
  · rw [if_neg h]
    have : Nat.blt n 1000000000 = false := by
      cases hb : Nat.blt n 1000000000 with
      | false => rfl
      | true => exact absurd (Nat.le_of_ble_eq_true hb) h
    rw [this]
theorem SH.put_eq (σ : SH) (n : Nat) (o : Option SO) : σ.put n o = { σ with tr := σ.tr.set o fuelT n } := by unfold SH.put; rw [Tr.setR_eq]
theorem SH.push_eq (σ : SH) (o : SO) : σ.push o = ⟨σ.next + 1, σ.tr.set (some o) fuelT σ.next⟩ := by unfold SH.push; rw [Tr.setR_eq]
end Go.Proofs.YtnlijlabkoefbaaGreatDoor
