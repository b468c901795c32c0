/-
  THE EXECUTOR, part H: len, cap, append.
-/
import Derived.Test.YthenjjonphoklaaGreatDoorSymG
import Derived.Laws.Append
import Derived.Laws.AppendOwn
set_option linter.unusedVariables false
set_option linter.unusedSimpArgs false
namespace Go.Proofs.YthenjjonphoklaaGreatDoor
open Go Go.RowKit

variable {P : Program} {w0 : Base} {env : Env} {σ : SH} {w : World}

theorem run_getObj_map {b : Nat} {es : Array MapEntry} {c : Nat} (h : w.heap[b]? = some (.map es c)) : (getObj b).run P w = .ok (.map es c) w := by
  simp [getObj, Sem.run, h]
noncomputable def sLen (P : Program) (σ : SH) (T : TypeId) (x : SV) : Option SV := match P.underlying T with
  | some .string => match x with
    | .str l => some (.int .i64 (lenR l))
    | _ => none
  | some (.array n _) => some (.int .i64 n)
  | some (.slice _) => match x with
    | .slice _ _ len _ => some (.int .i64 len)
    | .nils => some (.int .i64 0)
    | .zslice _ _ _ _ _ => some (.int .i64 0)
    | _ => none
  | some (.map _ _) => match x with
    | .nilm => some (.int .i64 0)
    | .map n => match σ.get n with
      | some (.map es) => some (.int .i64 (lenR es))
      | _ => none
    | _ => none
  | _ => none
theorem sLen_ok (h : Rel P w0 env σ w) {T ty : TypeId} {s t : SV} {v : Value} (hs : sLen P σ T s = some t) (hd : den env s = some v) :
    ∃ u, den env t = some u ∧ (Builtin.len_ #[T] ty #[v]).run P w = .ok u w := by
  unfold sLen at hs
  simp only [lenR_eq, takeR_eq, dropR_eq, appR_eq, allR_eq, mapR_eq] at hs
  split at hs
  · rename_i hu
    split at hs
    · rename_i l; cases hs
      simp only [den, Option.some.injEq] at hd; subst hd
      exact ⟨_, rfl, by simp [Builtin.len_, underlying, hu, goInt, bytesOf_size]⟩
    · cases hs
  · rename_i n e hu; cases hs
    exact ⟨_, rfl, by simp [Builtin.len_, underlying, hu, goInt]⟩
  · rename_i e hu
    split at hs
    · rename_i n off len c; cases hs
      obtain ⟨b, k, he, rfl⟩ := den_slice hd
      exact ⟨_, rfl, by simp [Builtin.len_, underlying, hu, goInt]⟩
    · cases hs
      simp only [den, Option.some.injEq] at hd; subst hd
      exact ⟨_, rfl, by simp [Builtin.len_, underlying, hu, goInt]⟩
    · cases hs
      obtain ⟨ad, cp, rfl⟩ := den_zslice hd
      exact ⟨_, rfl, by simp [Builtin.len_, underlying, hu, goInt]⟩
    · cases hs
  · rename_i kt et hu
    split at hs
    · cases hs
      simp only [den, Option.some.injEq] at hd; subst hd
      exact ⟨_, rfl, by simp [Builtin.len_, underlying, hu, goInt]⟩
    · rename_i n
      split at hs
      · rename_i es hn; cases hs
        obtain ⟨b, k, he, rfl⟩ := den_map hd
        obtain ⟨b', c', h1, h2, ents, clock, ks, vs, g1, g2, g3, g4, g5, _⟩ := h.obj n _ hn
        rw [he] at h1; cases h1
        have hsz : ents.size = es.length := by
          have := denL_length g2
          rw [← g4] at this
          simpa using this
        exact ⟨_, rfl, by simp [Builtin.len_, underlying, hu, goInt, run_getObj_map g1, hsz]⟩
      · cases hs
    · cases hs
  · cases hs

noncomputable def sCap (P : Program) (T : TypeId) (x : SV) : Option SV := match P.underlying T with
  | some (.slice _) => match x with
    | .slice _ _ _ (.lit c) => some (.int .i64 c)
    | .nils => some (.int .i64 0)
    | _ => none
  | _ => none
theorem sCap_ok {T ty : TypeId} {s t : SV} {v : Value} (hs : sCap P T s = some t) (hd : den env s = some v) :
    ∃ u, den env t = some u ∧ (Builtin.cap_ #[T] ty #[v]).run P w = .ok u w := by
  unfold sCap at hs
  split at hs
  · rename_i e hu
    split at hs
    · rename_i n off len c; cases hs
      obtain ⟨b, k, he, rfl⟩ := den_slice hd
      exact ⟨_, rfl, by simp [Builtin.cap_, underlying, hu, goInt, capOf]⟩
    · cases hs
      simp only [den, Option.some.injEq] at hd; subst hd
      exact ⟨_, rfl, by simp [Builtin.cap_, underlying, hu, goInt]⟩
    · cases hs
  · cases hs

/-- What an argument of append gives. -/
structure Gift (P : Program) (w : World) (size : Nat) (D : TypeDesc) (x : Value) (n : Nat) (news : List Value) : Prop where
  kind : (∃ e, D = .slice e) ∨ D = .string
  len : ∀ w', (Builtin.lenOf x).run P w' = .ok n w'
  cells : (Builtin.firstCells size n x).run P w = .ok news.toArray w
  cellsD : (Builtin.firstCells size n x).run P w.drew = .ok news.toArray w.drew

theorem append_in {t t' ty e : TypeId} {i : TypeInfo} {D : TypeDesc} {x : Value} {n : Nat} {news : List Value} (ht : P.underlying t = some (.slice e)) (hi : P.info? e = some i) (hD : P.underlying t' = some D)
    (hg : Gift P w i.size D x n news) {a : Addr} {sl sc : Nat} (hroom : sl + n ≤ sc) {w' : World} (hst : (storeCells (a.add (sl * i.size)) news 0).run P w = .ok () w') :
    (Builtin.append_ #[t, t'] ty #[.slice (some a) sl sc, x]).run P w = .ok (.slice (some a) (sl + n) sc) w' := by
  have h1 := hg.len
  have h2 := hg.cells
  rcases hg.kind with ⟨e', rfl⟩ | rfl <;> simp [Builtin.append_, run_underlying ht, run_underlying hD, sizeOf, typeInfo, hi, h1, hroom, h2, hst]

theorem append_out {t t' ty e : TypeId} {i : TypeInfo} {z : Value} {D : TypeDesc} {x : Value} {n : Nat} {news olds : List Value} (ht : P.underlying t = some (.slice e)) (hi : P.info? e = some i) (hz : i.zero = some z) (hD : P.underlying t' = some D)
    (hg : Gift P w i.size D x n news) {base : Option Addr} {sl sc : Nat} (hold : (Builtin.firstCells i.size sl (.slice base sl sc)).run P w.drew = .ok olds.toArray w.drew)
    (hroom : sc < sl + n) (h63 : sl + n ≤ 9223372036854775807) (hfit : (sl + n) * i.bytes ≤ 140737488355328) :
    (Builtin.append_ #[t, t'] ty #[.slice base sl sc, x]).run P w = .ok (.slice (some ⟨w.heap.size, 0, none⟩) (sl + n) (grownCap w (sl + n) sc e))
      (w.drew.alloc (.cells (olds.toArray ++ news.toArray ++ Builtin.zeroCells z.cells (grownCap w (sl + n) sc e - (sl + n))) e)) := by
  have h1 := hg.len
  have h2 := hg.cellsD
  have hn : ¬ (sl + n ≤ sc) := by omega
  have h63' : ¬ (9223372036854775807 < ((sl : Int) + (n : Int))) := by omega
  have h48 := growslice_fits hroom hfit
  have h48' : ¬ (281474976710656 < Builtin.nextslicecap (sl + n) sc * i.bytes) := by omega
  rcases hg.kind with ⟨e', rfl⟩ | rfl
  · simp [Builtin.append_, run_underlying ht, run_underlying hD, sizeOf, typeInfo, zeroValue, hi, hz, h1, hn, h63', h48', Question.forced, h2, hold, newRow, grownCap]
    congr 2
    apply Array.ext'
    simp [List.append_assoc]
  · simp [Builtin.append_, run_underlying ht, run_underlying hD, sizeOf, typeInfo, zeroValue, hi, hz, h1, hn, h63', h48', Question.forced, h2, hold, newRow, grownCap]
    congr 2
    apply Array.ext'
    simp [List.append_assoc]
end Go.Proofs.YthenjjonphoklaaGreatDoor
