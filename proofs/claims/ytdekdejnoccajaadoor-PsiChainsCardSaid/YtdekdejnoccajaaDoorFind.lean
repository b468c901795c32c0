/-
  trestlehelp.Find and Begins: where a text stands in another one.
-/
import Derived.Test.YtdekdejnoccajaaDoorBase
import Derived.Test.YtdekdejnoccajaaDoorNum
import Derived.Lib.IndexMore
import Derived.Lib.IndexLaws
import Derived.Lib.Strings
import Derived.Lib.IndexBytes
set_option linter.unusedVariables false
set_option linter.unusedSimpArgs false
namespace Go.Proofs.YtdekdejnoccajaaDoor
open Go.RowKit Go.Lib

/-- What Find answers from a place on. -/
def findV (s t : List UInt8) (i : Nat) : Int := if i ≤ s.length then (if index (s.drop i) t = -1 then -1 else index (s.drop i) t + i) else -1

theorem occAt_take (s t : List UInt8) (i : Nat) : occAt s t i = (((s.drop i).take t.length) == t) := by
  unfold occAt
  rw [Bool.eq_iff_iff, List.isPrefixOf_iff_prefix, beq_iff_eq, List.prefix_iff_eq_take]
  exact eq_comm
theorem occAt_drop (s t : List UInt8) (i j : Nat) : occAt (s.drop i) t j = occAt s t (i + j) := by
  unfold occAt; rw [List.drop_drop]
theorem occ_extract (s t : ByteArray) (i : Nat) : ((s.extract i (i + t.size)).toList == t.toList) = occAt s.data.toList t.data.toList i := by
  rw [occAt_take, extract_toList, toList_data t, show i + t.size - i = t.size by omega]; rfl
/-- Where index says, there is an occurrence, and none before. -/
theorem index_occ (t : List UInt8) : ∀ (s : List UInt8) (p : Nat), index s t = (p : Int) → occAt s t p = true ∧ ∀ j, j < p → occAt s t j = false := by
  intro s
  induction s with
  | nil =>
    intro p h
    unfold index at h
    split at h
    · rename_i he
      obtain rfl : p = 0 := by omega
      exact ⟨by unfold occAt; simpa using he, fun j hj => absurd hj (by omega)⟩
    · omega
  | cons b l ih =>
    intro p h
    unfold index at h
    split at h
    · rename_i hp
      obtain rfl : p = 0 := by omega
      exact ⟨by unfold occAt; simpa using hp, fun j hj => absurd hj (by omega)⟩
    · rename_i hp
      split at h
      · omega
      · rename_i hne
        have hne' : index l t ≠ -1 := by simpa using hne
        have hg := index_ge l t
        obtain ⟨q, rfl⟩ : ∃ q, p = q + 1 := ⟨p - 1, by omega⟩
        obtain ⟨h1, h2⟩ := ih q (by omega)
        refine ⟨by unfold occAt at *; simpa using h1, fun j hj => ?_⟩
        cases j with
        | zero => unfold occAt; simp only [List.drop_zero]; exact Bool.eq_false_iff.2 hp
        | succ j => have := h2 j (by omega); unfold occAt at *; simpa using this
theorem index_fits {s t : List UInt8} {p : Nat} (h : index s t = (p : Int)) : p + t.length ≤ s.length := by
  have h1 := (index_occ t s p h).1
  rw [occAt_take, beq_iff_eq] at h1
  have h2 := congrArg List.length h1
  rw [List.length_take, List.length_drop] at h2
  have h3 := index_le s t
  omega
theorem findV_hit {s t : List UInt8} {i k : Nat} (hi : i ≤ k) (hk : k ≤ s.length) (hn : ∀ j, i ≤ j → j < k → occAt s t j = false) (ho : occAt s t k = true) : findV s t i = k := by
  have h := index_first (s := s.drop i) (sub := t) (i := k - i) (by rw [List.length_drop]; omega) (by rw [occAt_drop, show i + (k - i) = k by omega]; exact ho) (fun j hj => by rw [occAt_drop]; exact hn _ (by omega) (by omega))
  unfold findV
  rw [if_pos (by omega), h, if_neg (by omega)]; omega
theorem occAt_past {s t : List UInt8} {j : Nat} (h : s.length < j + t.length) (hj : j ≤ s.length) (ht : t ≠ []) : occAt s t j = false := by
  rw [occAt_take]
  rw [beq_eq_false_iff_ne]
  intro e
  have := congrArg List.length e
  rw [List.length_take, List.length_drop] at this
  omega
theorem findV_none {s t : List UInt8} {i k : Nat} (hi : i ≤ k) (hn : ∀ j, i ≤ j → j < k → occAt s t j = false) (h : s.length < k + t.length) : findV s t i = -1 := by
  unfold findV
  split
  · rename_i hle
    have : index (s.drop i) t = -1 := index_none (fun j hj => by
      rw [occAt_drop]
      rw [List.length_drop] at hj
      rcases Nat.lt_or_ge (i + j) k with h1 | h1
      · exact hn _ (by omega) h1
      · by_cases ht : t = []
        · subst ht; simp at h; omega
        · exact occAt_past (by omega) (by omega) ht)
    rw [this]; rfl
  · rfl
theorem findV_zero (s t : List UInt8) : findV s t 0 = index s t := by
  unfold findV
  rw [if_pos (Nat.zero_le _)]
  simp only [List.drop_zero, Int.natCast_zero, Int.add_zero]
  split
  · rename_i h; exact h.symm
  · rfl

set_option maxRecDepth 100000 in
theorem find_any (s t : ByteArray) (i : Nat) (w : World) (hs : s.size ≤ 140737488351232) (ht : t.size ≤ 140737488351232) (hi : i ≤ 140737488351232) :
    Calls Tryd.prog 36 #[.string s, .string t, .int .i64 i] w fun e w' => e = .returned (.int .i64 (findV s.data.toList t.data.toList i)) ∧ w = w' := by
  have hsl : s.data.toList.length = s.size := rfl
  have htl : t.data.toList.length = t.size := rfl
  have HS := Lib.hid hsl
  have HT := Lib.hid htl
  clear hsl htl
  go_enter Tryd.func36, Tryd.ntmps36
  go_wp2
  go_loop [7] (fun v => ∃ k : Nat, i ≤ k ∧ (k ≤ s.size + 1 ∨ k = i) ∧ v = .int .i64 k ∧ Hid (∀ j, i ≤ j → j < k → occAt s.data.toList t.data.toList j = false)) (fun v => (s.size + 1 + i) - (intOf v).toNat)
  case atStart => exact ⟨i, Nat.le_refl _, Or.inr rfl, rfl, Lib.hid (fun _ _ _ => absurd ‹_› (by omega))⟩
  case round =>
    obtain ⟨k, hik, hks, rfl, HN⟩ := hrel
    have hk2 : k ≤ 140737488351233 := by omega
    by_cases hle : k + t.size ≤ s.size
    · by_cases ho : occAt s.data.toList t.data.toList k = true
      · have hb : ((s.extract k (k + t.size)).toList == t.toList) = true := by rw [occ_extract]; exact ho
        have HF := Lib.hid (findV_hit hik (by rw [HS.out]; omega) HN.out ho)
        clear ho
        go_wp2
        go_ret
        rw [HF.out]
        exact ⟨rfl, rfl⟩
      · have ho' : occAt s.data.toList t.data.toList k = false := by simpa using ho
        have hb : ((s.extract k (k + t.size)).toList == t.toList) = false := by rw [occ_extract]; exact ho'
        have HO := Lib.hid ho'
        clear ho ho'
        go_wp2
        go_round
        case rel => exact ⟨k + 1, by omega, by omega, by go_num, Lib.hid (fun j h1 h2 => by
          rcases Nat.lt_or_ge j k with h3 | h3
          · exact HN.out j h1 h3
          · obtain rfl : j = k := by omega
            exact HO.out)⟩
        case measure => simp [intOf]; omega
    · have HF := Lib.hid (findV_none hik HN.out (show s.data.toList.length < k + t.data.toList.length by rw [HS.out, HT.out]; omega))
      go_wp2
      go_ret
      rw [HF.out]
      exact ⟨rfl, rfl⟩
end Go.Proofs.YtdekdejnoccajaaDoor
