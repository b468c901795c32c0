/-
  THE EXECUTOR, part B: when a symbolic heap fits a world; allocating, loading, storing.
-/
import Derived.Test.YthenjjonphoklaaGreatDoorSymA
import Derived.Deep.MidRow
import Derived.Laws.CopyRow
import Derived.Laws.AppendOwn
set_option linter.unusedVariables false
set_option linter.unusedSimpArgs false
namespace Go.Proofs.YthenjjonphoklaaGreatDoor
open Go Go.RowKit

/-- None of the first n cells is frozen. -/
def thawed (fr : Nat × Nat) (n : Nat) : Prop := fr.1 = fr.2 ∨ n ≤ fr.1
theorem thawed_at {fr : Nat × Nat} {n : Nat} (h : thawed fr n) (i : Nat) (hi : i < n) : (decide (fr.1 ≤ i) && decide (i < fr.2)) = false := by
  rcases h with h | h
  · by_cases h1 : fr.1 ≤ i
    · have : ¬ i < fr.2 := by omega
      simp [this]
    · simp [h1]
  · have : ¬ fr.1 ≤ i := by omega
    simp [this]
theorem thawed_zero (n : Nat) : thawed (0, 0) n := .inl rfl

/-- A symbolic block and the block that stands for it. -/
def ORel (P : Program) (env : Env) (w : World) (b c : Nat) : SO → Prop
  | .cells l e exact => ∃ cur t fr vs, w.heap[b]? = some (.cells cur t fr) ∧ thawed fr cur.size ∧ denL env l = some vs ∧ cur.toList.take l.length = vs ∧
      (exact = true → cur.size = l.length ∧ t = e) ∧ (exact = false → cur.size = c * P.cellsOf e ∧ c ≤ maxLen ∧ t = e)
  | .map es => ∃ ents clock ks vs, w.heap[b]? = some (.map ents clock) ∧ denL env (es.map (·.1)) = some ks ∧ denL env (es.map (·.2)) = some vs ∧
      ents.toList.map (·.key) = ks ∧ ents.toList.map (·.val) = vs ∧ clock = ents.size ∧ ∀ (i : Nat) (x : MapEntry), ents[i]? = some x → x.born = i
  | .siter l pos => w.heap[b]? = some (.stringIter (bytesOf l) pos)
  | .miter m since seen last => ∃ r, den env m = some (.map r) ∧ w.heap[b]? = some (.mapIter r since seen.toArray last)

theorem ORel.ext {P : Program} {env env' : Env} {w w' : World} {b c : Nat} {o : SO} (h : ORel P env w b c o) (he : env.ext env') (hb : w'.heap[b]? = w.heap[b]?) : ORel P env' w' b c o := by
  cases o with
  | cells l e exact =>
    obtain ⟨cur, t, fr, vs, h1, h2, h3, h4⟩ := h
    exact ⟨cur, t, fr, vs, hb.trans h1, h2, denL_ext he _ _ h3, h4⟩
  | map es =>
    obtain ⟨ents, clock, ks, vs, h1, h2, h3, h4⟩ := h
    exact ⟨ents, clock, ks, vs, hb.trans h1, denL_ext he _ _ h2, denL_ext he _ _ h3, h4⟩
  | siter l pos => exact hb.trans h
  | miter m since seen last =>
    obtain ⟨r, h1, h2⟩ := h
    exact ⟨r, den_ext he _ _ h1, hb.trans h2⟩
theorem ORel.mono {P : Program} {env env' : Env} {w w' : World} {b c : Nat} {o : SO} (h : ORel P env w b c o) (he : env.le env') (hb : w'.heap[b]? = w.heap[b]?) : ORel P env' w' b c o := h.ext he.toext hb
theorem ORel.lt {P : Program} {env : Env} {w : World} {b c : Nat} {o : SO} (h : ORel P env w b c o) : b < w.heap.size := by
  cases o with
  | cells l e exact => obtain ⟨cur, t, fr, vs, h1, _⟩ := h; exact (Array.getElem?_eq_some_iff.1 h1).1
  | map es => obtain ⟨ents, clock, ks, vs, h1, _⟩ := h; exact (Array.getElem?_eq_some_iff.1 h1).1
  | siter l pos => exact (Array.getElem?_eq_some_iff.1 h).1
  | miter m since seen last => obtain ⟨r, _, h2⟩ := h; exact (Array.getElem?_eq_some_iff.1 h2).1

/-- A world, and which of its blocks stay as they are. -/
structure Base where
  w : World
  keep : Nat → Prop
/-- What a world keeps of a base. -/
structure Keeps (b : Base) (w : World) : Prop where
  os : w.os = b.w.os
  tape : w.tape = b.w.tape
  output : w.output = b.w.output
  size : b.w.heap.size ≤ w.heap.size
  block : ∀ k, b.keep k → k < b.w.heap.size ∧ w.heap[k]? = b.w.heap[k]?

/-- The variable internal/bytealg.MaxLen holds a number. -/
def MaxLenIs (P : Program) (w : World) : Prop := ∀ g, P.globals.findIdx? (·.name == "internal/bytealg.MaxLen") = some g → ∃ m, w.cell? ⟨g, 0, none⟩ = some (.int .i64 m)
/-- A base keeps that variable. -/
def Okay (P : Program) (b : Base) : Prop := MaxLenIs P b.w ∧ ∀ g, P.globals.findIdx? (·.name == "internal/bytealg.MaxLen") = some g → b.keep g
/-- The symbolic heap fits the world. -/
structure Rel (P : Program) (w0 : Base) (env : Env) (σ : SH) (w : World) : Prop where
  okay : Okay P w0
  below : Keeps w0 w
  nx : env.next = σ.next
  fresh : ∀ n, σ.next ≤ n → env.blocks n = none
  obj : ∀ n o, σ.get n = some o → ∃ b c, env.blocks n = some (b, c) ∧ ¬ w0.keep b ∧ ORel P env w b c o
  apart : ∀ (n m : Nat) o o' (x y : Nat × Nat), n ≠ m → σ.get n = some o → σ.get m = some o' → env.blocks n = some x → env.blocks m = some y → x.1 ≠ y.1

variable {P : Program} {w0 : Base} {env : Env} {σ : SH} {w : World}

theorem Rel.maxLen (h : Rel P w0 env σ w) : MaxLenIs P w := fun g hg => by
  obtain ⟨m, hm⟩ := h.okay.1 g hg
  have hb := (h.below.block g (h.okay.2 g hg)).2
  refine ⟨m, ?_⟩
  unfold World.cell? at hm ⊢
  simp only at hm ⊢
  rw [hb]; exact hm

theorem Rel.le_push (h : Rel P w0 env σ w) (b c : Nat) : env.le (env.push σ.next b c) := Env.le_push env _ b c (h.fresh _ (Nat.le_refl _)) h.nx
theorem SH.get_lt {σ : SH} {n : Nat} {o : SO} (h : σ.get n = some o) : n < 1000000000 ∧ σ.tr.get fuelT n = some o := by
  rw [SH.get_eq] at h
  split at h
  · rename_i hn; exact ⟨hn, h⟩
  · cases h
theorem SH.get_push {σ : SH} {o : SO} {n : Nat} {y : SO} (h : (σ.push o).get n = some y) : (n = σ.next ∧ y = o) ∨ (n ≠ σ.next ∧ σ.get n = some y) := by
  obtain ⟨h1, h2⟩ := SH.get_lt h
  rw [SH.push_eq] at h2
  by_cases hn : n = σ.next
  · subst hn
    rw [Tr.get_set_eq _ _ _ _ (by unfold fuelT; omega)] at h2
    exact .inl ⟨rfl, (Option.some.inj h2).symm⟩
  · rw [Tr.get_set_ne _ _ _ _ _ (Ne.symm hn)] at h2
    refine .inr ⟨hn, ?_⟩
    rw [SH.get_eq, if_pos h1]; exact h2
theorem SH.get_put {σ : SH} {o : Option SO} {n m : Nat} {y : SO} (h : (σ.put n o).get m = some y) : (m = n ∧ o = some y) ∨ (m ≠ n ∧ σ.get m = some y) := by
  obtain ⟨h1, h2⟩ := SH.get_lt h
  rw [SH.put_eq] at h2
  by_cases hn : m = n
  · subst hn
    rw [Tr.get_set_eq _ _ _ _ (by unfold fuelT; omega)] at h2
    exact .inl ⟨rfl, h2⟩
  · rw [Tr.get_set_ne _ _ _ _ _ (Ne.symm hn)] at h2
    refine .inr ⟨hn, ?_⟩
    rw [SH.get_eq, if_pos h1]; exact h2

/-- A world that is as it was, but for what lies behind. -/
theorem Rel.world {w' : World} (h : Rel P w0 env σ w) (hb : Below w.heap.size w w') : Rel P w0 env σ w' := by
  refine ⟨h.okay, ⟨hb.os.trans h.below.os, hb.tape.trans h.below.tape, hb.output.trans h.below.output, Nat.le_trans h.below.size hb.size, fun k hk => ?_⟩, h.nx, h.fresh, fun n o ho => ?_, h.apart⟩
  · obtain ⟨h1, h2⟩ := h.below.block k hk
    exact ⟨h1, by rw [hb.block k (Nat.lt_of_lt_of_le h1 h.below.size)]; exact h2⟩
  · obtain ⟨b, c, h1, h2, h3⟩ := h.obj n o ho
    exact ⟨b, c, h1, h2, h3.mono (Env.le_refl _) (hb.block b h3.lt)⟩

theorem below_drew' (w : World) : Below w.heap.size w w.drew := ⟨rfl, rfl, rfl, Nat.le_refl _, fun _ _ => rfl⟩
theorem Rel.drew (h : Rel P w0 env σ w) : Rel P w0 env σ w.drew := h.world (below_drew' w)

/-- A block anew. -/
theorem Rel.push {o : Obj} {so : SO} {c : Nat} (h : Rel P w0 env σ w) (ho : ORel P (env.push σ.next w.heap.size c) (w.alloc o) w.heap.size c so) :
    Rel P w0 (env.push σ.next w.heap.size c) (σ.push so) (w.alloc o) := by
  have hnew := Env.new env σ.next w.heap.size c
  have hle := h.le_push w.heap.size c
  have hb : Below w.heap.size w (w.alloc o) := ⟨rfl, rfl, rfl, by rw [World.size_alloc]; omega, fun k hk => heap_alloc_old w o k hk⟩
  have h' := h.world hb
  have key : ∀ n y, (σ.push so).get n = some y → (n = σ.next ∧ y = so) ∨ (n ≠ σ.next ∧ σ.get n = some y) := fun n y hy => SH.get_push hy
  refine ⟨h.okay, h'.below, rfl, fun n hn => ?_, fun n y hy => ?_, fun n m y z x1 y1 hne hy hz hx1 hy1 => ?_⟩
  · have hn : σ.next + 1 ≤ n := hn
    rw [Env.push_ne _ _ _ (by omega)]; exact h.fresh n (by omega)
  · rcases key n y hy with ⟨rfl, rfl⟩ | ⟨hn, hy⟩
    · refine ⟨_, _, hnew, fun hk => ?_, ho⟩
      have := (h.below.block _ hk).1
      have := h.below.size
      omega
    · obtain ⟨b, c', h1, h2, h3⟩ := h'.obj n y hy
      exact ⟨b, c', hle.some n _ h1, h2, h3.mono hle rfl⟩
  · have old : ∀ k x, k ≠ σ.next → (∃ u, σ.get k = some u) → (env.push σ.next w.heap.size c).blocks k = some x → x.1 < w.heap.size ∧ env.blocks k = some x := fun k x hk ⟨u, hu⟩ hx => by
      obtain ⟨b, c', h1, h2, h3⟩ := h.obj k u hu
      rw [Env.push_ne _ _ _ hk] at hx
      rw [hx] at h1; cases h1
      exact ⟨h3.lt, hx⟩
    rcases key n y hy with ⟨rfl, rfl⟩ | ⟨hn, hy'⟩ <;> rcases key m z hz with ⟨rfl, rfl⟩ | ⟨hm, hz'⟩
    · exact absurd rfl hne
    · have := (old m y1 hm ⟨_, hz'⟩ hy1).1
      rw [hnew] at hx1; cases hx1; simp only; omega
    · have := (old n x1 hn ⟨_, hy'⟩ hx1).1
      rw [hnew] at hy1; cases hy1; simp only; omega
    · exact h.apart n m y z x1 y1 hne hy' hz' (old n x1 hn ⟨_, hy'⟩ hx1).2 (old m y1 hm ⟨_, hz'⟩ hy1).2

/-- A block's content anew. -/
theorem Rel.put {w' : World} {n b c : Nat} {o : SO} {so : Option SO} (h : Rel P w0 env σ w) (hn : σ.get n = some o) (he : env.blocks n = some (b, c))
    (hos : w'.os = w.os) (htp : w'.tape = w.tape) (hout : w'.output = w.output) (hsz : w.heap.size ≤ w'.heap.size) (hbl : ∀ k, k < w.heap.size → k ≠ b → w'.heap[k]? = w.heap[k]?)
    (ho : ∀ o', so = some o' → ORel P env w' b c o') : Rel P w0 env (σ.put n so) w' := by
  obtain ⟨b', c', h1, h2, h3⟩ := h.obj n o hn
  rw [he] at h1; cases h1
  refine ⟨h.okay, ⟨hos.trans h.below.os, htp.trans h.below.tape, hout.trans h.below.output, Nat.le_trans h.below.size hsz, fun k hk => ?_⟩, h.nx, h.fresh, fun m y hy => ?_, fun m k y z x1 y1 hne hy hz hx1 hy1 => ?_⟩
  · obtain ⟨g1, g2⟩ := h.below.block k hk
    exact ⟨g1, by rw [hbl k (Nat.lt_of_lt_of_le g1 h.below.size) (fun e => h2 (e ▸ hk))]; exact g2⟩
  · rcases SH.get_put hy with ⟨rfl, hso⟩ | ⟨hmn, hy⟩
    · exact ⟨b, c, he, h2, ho y hso⟩
    · obtain ⟨bm, cm, g1, g2, g3⟩ := h.obj m y hy
      exact ⟨bm, cm, g1, g2, g3.mono (Env.le_refl _) (hbl bm g3.lt (h.apart m n y o _ _ hmn hy hn g1 he))⟩
  · have old : ∀ k y, (σ.put n so).get k = some y → ∃ u, σ.get k = some u := fun k y hy => by
      rcases SH.get_put hy with ⟨rfl, _⟩ | ⟨_, hy⟩
      · exact ⟨o, hn⟩
      · exact ⟨y, hy⟩
    obtain ⟨u, hu⟩ := old m y hy
    obtain ⟨v, hv⟩ := old k z hz
    exact h.apart m k u v x1 y1 hne hu hv hx1 hy1
end Go.Proofs.YthenjjonphoklaaGreatDoor
