/-
  The reference's Get (layer 17).
-/
import Derived.Test.YtdekdejnoccajaaDoorGet
set_option linter.unusedVariables false
set_option linter.unusedSimpArgs false
namespace Go.Proofs.YtdekdejnoccajaaDoor
open Go.RowKit

set_option maxRecDepth 100000 in
theorem getRef_any (cs : Array Value) (key : ByteArray) (A : Option Addr) (cap : Nat) (l : List (ByteArray × ByteArray)) (w : World) (hl : l.length ≤ 140737488351232)
    (h64 : cs[64]? = some (.slice A l.length cap)) (hrow : RowAt w A (pairCells l)) :
    Calls Tryd.prog 35 #[.agg cs, .string key] w fun e w' => e = .returned (.tuple #[.string (getV l key), .bool (getB l key)]) ∧ Below w.heap.size w w' := by
  have hm : 2 * l.length = (pairCells l).length := (pairCells_length l).symm
  have HM := Lib.hid hm
  clear hm
  go_enter Tryd.func35, Tryd.ntmps35
  go_wp2
  go_loop [6] (fun i => ∃ k : Nat, k ≤ l.length ∧ i = .int .i64 k ∧ Hid (∀ j (h : j < l.length), j < k → (l[j].1.toList == key.toList) = false)) (fun i => l.length - (intOf i).toNat)
  case atStart => exact ⟨0, Nat.zero_le _, rfl, Lib.hid (fun _ _ h => absurd h (by omega))⟩
  case round =>
    obtain ⟨k, hk, rfl, HN⟩ := hrel
    by_cases hlt : k < l.length
    · obtain ⟨b, off, rfl, hbl, hc⟩ := hrow.at (by rw [← HM.out]; omega)
      obtain ⟨g1, g2⟩ := RowAt.pair (Below.refl _ w) hbl hc k hlt
      have hbne : b ≠ w.heap.size := by omega
      obtain ⟨x, hx⟩ : ∃ x, x = l[k] := ⟨_, rfl⟩
      rw [← hx] at g1 g2
      have HX := Lib.hid hx
      clear hx hc
      by_cases he : (x.1.toList == key.toList) = true
      · have hf := get_some key l k hlt HN.out (by rw [← HX.out]; exact he)
        rw [← HX.out] at hf
        have HF := Lib.hid hf
        clear hf
        go_wp2
        go_ret2
        rw [HF.out.1, HF.out.2]
        exact ⟨rfl, below_alloc (Below.refl _ _) _⟩
      · have he' : (x.1.toList == key.toList) = false := by simpa using he
        clear he
        go_wp2
        go_round
        case rel => exact ⟨k + 1, by omega, by go_num, Lib.hid (fun j h hj => by
          rcases Nat.lt_or_ge j k with h1 | h1
          · exact HN.out j h h1
          · obtain rfl : j = k := by omega
            rw [← HX.out]; exact he')⟩
        case measure => simp [intOf]; omega
    · have HF := Lib.hid (get_none key l (fun j hj => HN.out j hj (by omega)))
      go_wp2
      go_ret2
      rw [HF.out.1, HF.out.2]
      exact ⟨rfl, below_alloc (Below.refl _ _) _⟩
end Go.Proofs.YtdekdejnoccajaaDoor
