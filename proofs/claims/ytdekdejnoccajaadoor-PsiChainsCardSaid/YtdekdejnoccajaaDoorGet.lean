/-
  change.Get and the reference's Get: the value of an extra.
-/
import Derived.Test.YtdekdejnoccajaaDoorBase
set_option linter.unusedVariables false
set_option linter.unusedSimpArgs false
namespace Go.Proofs.YtdekdejnoccajaaDoor
open Go.RowKit

/-- The value of the first pair with a key. -/
def getV (l : List (ByteArray × ByteArray)) (key : ByteArray) : ByteArray := ((l.find? fun x => x.1.toList == key.toList).map (·.2)).getD ⟨#[]⟩
def getB (l : List (ByteArray × ByteArray)) (key : ByteArray) : Bool := l.any fun x => x.1.toList == key.toList

theorem get_none (key : ByteArray) : ∀ l : List (ByteArray × ByteArray), (∀ j (h : j < l.length), (l[j].1.toList == key.toList) = false) → getV l key = ⟨#[]⟩ ∧ getB l key = false := by
  intro l h
  have h' : ∀ x ∈ l, (x.1.toList == key.toList) = false := fun x hx => by
    obtain ⟨j, hj, rfl⟩ := List.getElem_of_mem hx
    exact h j hj
  unfold getV getB
  rw [List.find?_eq_none.2 (fun x hx => by rw [h' x hx]; simp)]
  exact ⟨rfl, List.any_eq_false.2 fun x hx => by rw [h' x hx]; simp⟩
theorem get_some (key : ByteArray) : ∀ (l : List (ByteArray × ByteArray)) (k : Nat) (hk : k < l.length), (∀ j (h : j < l.length), j < k → (l[j].1.toList == key.toList) = false) → (l[k].1.toList == key.toList) = true → getV l key = l[k].2 ∧ getB l key = true := by
  intro l
  induction l with
  | nil => intro k hk; simp at hk
  | cons x r ih =>
    intro k hk hn hy
    cases k with
    | zero =>
      simp only [List.getElem_cons_zero] at hy ⊢
      unfold getV getB
      simp [List.find?_cons, hy]
    | succ k =>
      have h0 := hn 0 (by simp) (by omega)
      simp only [List.getElem_cons_zero] at h0
      have := ih k (by simpa using hk) (fun j hj hjk => by
        have := hn (j + 1) (by simpa using hj) (by omega)
        simpa using this) (by simpa using hy)
      unfold getV getB at *
      simpa [List.find?_cons, h0] using this

set_option maxRecDepth 100000 in
theorem get_any (cs : Array Value) (key : ByteArray) (A : Option Addr) (cap : Nat) (l : List (ByteArray × ByteArray)) (w : World) (hl : l.length ≤ 140737488351232)
    (h64 : cs[64]? = some (.slice A l.length cap)) (hrow : RowAt w A (pairCells l)) :
    Calls Tryd.prog 32 #[.agg cs, .string key] w fun e w' => e = .returned (.tuple #[.string (getV l key), .bool (getB l key)]) ∧ Below w.heap.size w w' := by
  have hm : 2 * l.length = (pairCells l).length := (pairCells_length l).symm
  have HM := Lib.hid hm
  clear hm
  go_enter Tryd.func32, Tryd.ntmps32
  go_wp2
  go_loopw [11] (fun i wr => ∃ k : Nat, k ≤ l.length ∧ i = .int .i64 k ∧ Below w.heap.size w wr ∧ Hid (∀ j (h : j < l.length), j < k → (l[j].1.toList == key.toList) = false)) (fun i _ => l.length - (intOf i).toNat)
  case atStart => exact ⟨0, Nat.zero_le _, rfl, below_alloc (Below.refl _ _) _, Lib.hid (fun _ _ h => absurd h (by omega))⟩
  case round =>
    obtain ⟨k, hk, rfl, hb, HN⟩ := hrel
    by_cases hlt : k < l.length
    · obtain ⟨b, off, rfl, hbl, hc⟩ := hrow.at (by rw [← HM.out]; omega)
      obtain ⟨g1, g2⟩ := RowAt.pair hb hbl hc k hlt
      obtain ⟨x, hx⟩ : ∃ x, x = l[k] := ⟨_, rfl⟩
      rw [← hx] at g1 g2
      have HX := Lib.hid hx
      clear hx hc
      by_cases he : (x.1.toList == key.toList) = true
      · have hf := get_some key l k hlt HN.out (by rw [← HX.out]; exact he)
        rw [← HX.out] at hf
        have HF := Lib.hid hf
        clear hf
        go_wp2
        go_ret2
        rw [HF.out.1, HF.out.2]
        exact ⟨rfl, below_alloc hb _⟩
      · have he' : (x.1.toList == key.toList) = false := by simpa using he
        clear he
        go_wp2
        go_roundw
        case rel => exact ⟨k + 1, by omega, by go_num, below_alloc hb _, Lib.hid (fun j h hj => by
          rcases Nat.lt_or_ge j k with h1 | h1
          · exact HN.out j h h1
          · obtain rfl : j = k := by omega
            rw [← HX.out]; exact he')⟩
        case measure => simp [intOf]; omega
    · have HF := Lib.hid (get_none key l (fun j hj => HN.out j hj (by omega)))
      go_wp2
      go_ret2
      rw [HF.out.1, HF.out.2]
      exact ⟨rfl, hb⟩
end Go.Proofs.YtdekdejnoccajaaDoor
