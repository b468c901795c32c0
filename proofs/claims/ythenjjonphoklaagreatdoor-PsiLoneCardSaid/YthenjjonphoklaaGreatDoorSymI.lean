/-
  THE EXECUTOR, part I: append on symbolic slices.
-/
import Derived.Test.YthenjjonphoklaaGreatDoorSymH
set_option linter.unusedVariables false
set_option linter.unusedSimpArgs false
namespace Go.Proofs.YthenjjonphoklaaGreatDoor
open Go Go.RowKit

variable {P : Program} {w0 : Base} {env : Env} {σ : SH} {w : World}

/-- A block that is there gets a new name. -/
theorem Rel.name {so : SO} {b c : Nat} (h : Rel P w0 env σ w) (hb : ¬ w0.keep b) (ho : ORel P (env.push σ.next b c) w b c so) (hfree : ∀ (n : Nat) o (x : Nat × Nat), σ.get n = some o → env.blocks n = some x → x.1 ≠ b) :
    Rel P w0 (env.push σ.next b c) (σ.push so) w := by
  have hnew := Env.new env σ.next b c
  have hle := h.le_push b c
  have old : ∀ (k : Nat) (x : Nat × Nat), k ≠ σ.next → (env.push σ.next b c).blocks k = some x → env.blocks k = some x := fun k x hk hx => by
    rw [Env.push_ne _ _ _ hk] at hx; exact hx
  refine ⟨h.okay, h.below, rfl, fun n hn => ?_, fun n y hy => ?_, fun n m y z x1 y1 hne hy hz hx1 hy1 => ?_⟩
  · have hn : σ.next + 1 ≤ n := hn
    rw [Env.push_ne _ _ _ (by omega)]; exact h.fresh n (by omega)
  · rcases SH.get_push hy with ⟨rfl, rfl⟩ | ⟨hn, hy⟩
    · exact ⟨_, _, hnew, hb, ho⟩
    · obtain ⟨b', c', h1, h2, h3⟩ := h.obj n y hy
      exact ⟨b', c', hle.some n _ h1, h2, h3.mono hle rfl⟩
  · rcases SH.get_push hy with ⟨rfl, rfl⟩ | ⟨hn, hy'⟩ <;> rcases SH.get_push hz with ⟨rfl, rfl⟩ | ⟨hm, hz'⟩
    · exact absurd rfl hne
    · have := hfree m z y1 hz' (old m y1 hm hy1)
      rw [hnew] at hx1; cases hx1; exact fun e => this e.symm
    · have := hfree n y x1 hy' (old n x1 hn hx1)
      rw [hnew] at hy1; cases hy1; exact this
    · exact h.apart n m y z x1 y1 hne hy' hz' (old n x1 hn hx1) (old m y1 hm hy1)

/-- What an argument of append gives. -/
noncomputable def sGift (P : Program) (σ : SH) (T : TypeId) (size : Nat) (x : SV) : Option (Nat × List SV) := match P.underlying T with
  | some (.slice _) => match x with
    | .slice n off m _ => match σ.get n with
      | some (.cells l _ _) => if off + m * size ≤ (lenR l) then some (m, (dropR l off).take (m * size)) else none
      | _ => none
    | .nils => some (0, [])
    | .zslice _ _ _ _ _ => some (0, [])
    | _ => none
  | some .string => match x with
    | .str l => if size = 1 then some ((lenR l), l.map fun b => .int .u8 (b % 256 : Nat)) else none
    | _ => none
  | _ => none
theorem strCells_den (l : List Nat) : denL env (l.map fun b => SV.int .u8 (b % 256 : Nat)) = some ((bytesOf l).data.toList.map fun b => Value.int .u8 b.toNat) := by
  rw [bytesOf_list]
  induction l with
  | nil => rfl
  | cons x r ih =>
    simp only [List.map_cons] at ih ⊢
    refine denL_mk ?_ ih
    simp only [den]
    simp
theorem sGift_ok (h : Rel P w0 env σ w) {T : TypeId} {size n : Nat} {x : SV} {l : List SV} (hs : sGift P σ T size x = some (n, l)) {v : Value} (hd : den env x = some v) :
    ∃ D news, P.underlying T = some D ∧ denL env l = some news ∧ news.length = n * size ∧ Gift P w size D v n news := by
  unfold sGift at hs
  simp only [lenR_eq, takeR_eq, dropR_eq, appR_eq, allR_eq, mapR_eq] at hs
  split at hs
  · rename_i e hu
    split at hs
    · rename_i k off m c
      split at hs
      · rename_i cl ce ex hn
        split at hs
        · rename_i hle
          simp only [Option.some.injEq, Prod.mk.injEq] at hs
          obtain ⟨rfl, rfl⟩ := hs
          obtain ⟨b, q, he, rfl⟩ := den_slice hd
          obtain ⟨vs, h1, h2, h3⟩ := h.loadCells hn he hle
          obtain ⟨vs', h1', h2', h3'⟩ := h.drew.loadCells hn he hle
          rw [h1] at h1'; cases h1'
          exact ⟨_, vs, hu, h1, h2, ⟨.inl ⟨_, rfl⟩, fun w' => by simp [Builtin.lenOf], by simp only [Builtin.firstCells]; exact h3, by simp only [Builtin.firstCells]; exact h3'⟩⟩
        · cases hs
      · cases hs
    · simp only [Option.some.injEq, Prod.mk.injEq] at hs
      obtain ⟨rfl, rfl⟩ := hs
      simp only [den, Option.some.injEq] at hd; subst hd
      exact ⟨_, [], hu, rfl, by simp, ⟨.inl ⟨_, rfl⟩, fun w' => by simp [Builtin.lenOf], by simp [Builtin.firstCells], by simp [Builtin.firstCells]⟩⟩
    · simp only [Option.some.injEq, Prod.mk.injEq] at hs
      obtain ⟨rfl, rfl⟩ := hs
      obtain ⟨ad, cp, rfl⟩ := den_zslice hd
      exact ⟨_, [], hu, rfl, by simp, ⟨.inl ⟨_, rfl⟩, fun w' => by simp [Builtin.lenOf], by simp [Builtin.firstCells, loadCells, loadCellsFrom], by simp [Builtin.firstCells, loadCells, loadCellsFrom]⟩⟩
    · cases hs
  · rename_i hu
    split at hs
    · rename_i bl
      split at hs
      · rename_i h1; subst h1
        simp only [Option.some.injEq, Prod.mk.injEq] at hs
        obtain ⟨rfl, rfl⟩ := hs
        simp only [den, Option.some.injEq] at hd; subst hd
        have hx : ((bytesOf bl).extract 0 bl.length) = bytesOf bl := by
          rw [bytesOf_extract bl 0 bl.length (Nat.le_refl _)]; simp
        have hf : ∀ w', (Builtin.firstCells 1 bl.length (.string (bytesOf bl))).run P w' = .ok ((bytesOf bl).data.toList.map fun b => Value.int .u8 b.toNat).toArray w' := fun w' => by
          simp only [Builtin.firstCells, hx]
          show Result.ok _ _ = Result.ok _ _
          congr 1
          apply Array.ext'; simp
        refine ⟨_, _, hu, strCells_den bl, ?_, ⟨.inr rfl, fun w' => by simp [Builtin.lenOf, bytesOf_size], hf w, hf w.drew⟩⟩
        rw [List.length_map, bytesOf_list, List.length_map]; omega
      · cases hs
    · cases hs
  · cases hs

/-- The numbers that append asks of. -/
def fits (P : Program) (e : TypeId) (n : Nat) : Bool := match P.info? e with
  | some i => decide (n ≤ 1099511627776) && decide (n * i.bytes ≤ 140737488355328)
  | none => false

noncomputable def sAppendOut (P : Program) (σ : SH) (e : TypeId) (olds news : List SV) (n : Nat) : SR := .val (.slice σ.next 0 n (.rest 0)) (σ.push (.cells (appR olds news) e false))

theorem grown_den (ho : env.ones) (h : Rel P w0 env σ w) {e : TypeId} {i : TypeInfo} {z : Value} {n sc k : Nat} {olds news : List SV} {vo vn : List Value} (hi : P.info? e = some i) (hzs : z.cells.size = i.size)
    (h1 : denL env olds = some vo) (h2 : denL env news = some vn) (hl : (vo ++ vn).length = n * i.size) (hcap : n ≤ grownCap w n sc e) (hm : grownCap w n sc e ≤ maxLen) :
    Rel P w0 (env.push σ.next w.drew.heap.size (grownCap w n sc e)) (σ.push (.cells (olds ++ news) e false)) (w.drew.alloc (.cells (vo.toArray ++ vn.toArray ++ Builtin.zeroCells z.cells (grownCap w n sc e - n)) e)) := by
  have hden := denL_append h1 h2
  refine h.drew.push ⟨_, e, (0, 0), vo ++ vn, heap_alloc_new w.drew _, thawed_zero _, denL_mono (h.le_push _ _) _ _ hden, ?_, (fun hx => by cases hx), fun _ => ⟨?_, hm, rfl⟩⟩
  · simp only [Array.toList_append]
    rw [List.take_append_of_le_length (by simp only [List.length_append, Array.length_toList, List.size_toArray]; rw [← List.length_append, ← denL_length hden, List.length_append]; omega)]
    rw [← denL_length hden]
    exact List.take_of_length_le (Nat.le_refl _)
  · have hc : P.cellsOf e = i.size := by simp [Program.cellsOf, hi]
    rw [hc]
    simp only [Array.size_append, List.size_toArray, size_zeroCells, hzs]
    rw [← List.length_append, hl, ← Nat.add_mul]
    congr 1; omega

noncomputable def sAppend (P : Program) (σ : SH) (T T' : TypeId) (s x : SV) : Option SR := match P.underlying T with
  | some (.slice e) => match ssize P e, szero P e with
    | some z, some zv => if decide (0 < z) && (lenR (cellsS zv)) == z then (match sGift P σ T' z x with
      | some (m, news) => match s with
        | .nils => if m = 0 then some (.val .nils σ) else if fits P e m then some (sAppendOut P σ e [] news m) else none
        | .slice n off len (.lit c) => match σ.get n with
          | some (.cells l e' ex) =>
            if len + m ≤ c then (if decide (off + len * z + (lenR news) ≤ (lenR l)) && (allR oneS news) then some (.val (.slice n off (len + m) (.lit c)) (σ.put n (some (.cells (patch l (off + len * z) news) e' ex)))) else none)
            else if decide (off + len * z ≤ (lenR l)) && fits P e (len + m) then some (sAppendOut P σ e (takeR (dropR l off) (len * z)) news (len + m)) else none
          | _ => none
        | .slice n off len (.rest d) => match σ.get n with
          | some (.cells l e' ex) =>
            if off = 0 ∧ d = 0 ∧ ex = false ∧ (P.cellsOf e' = z ∧ e' = e) ∧ len * z ≤ (lenR l) ∧ (allR oneS news) = true then
              (if (len + m) * z ≤ (lenR l) then some (.val (.slice n 0 (len + m) (.rest 0)) (σ.put n (some (.cells (patch l (len * z) news) e' false))))
               else if fits P e (len + m) then some (sAppendOut P (σ.put n none) e (takeR l (len * z)) news (len + m)) else none)
            else none
          | _ => none
        | _ => none
      | none => none) else none
    | _, _ => none
  | _ => none
end Go.Proofs.YthenjjonphoklaaGreatDoor
