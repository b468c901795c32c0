/-
  PURE: which texts are a chain's number (the plain law of PsiChains).
-/
import Derived.Test.YtdekdejnoccajaaDoorLink
import Derived.Test.YtdekdejnoccajaaDoorTakeRef
import Derived.Test.YtdekdejnoccajaaDoorFind
set_option linter.unusedVariables false
set_option linter.unusedSimpArgs false
namespace Go.Proofs.YtdekdejnoccajaaDoor
open Go.RowKit Go.Lib

theorem isDig_ne32 {c : UInt8} (h : isDig c = true) : c ≠ 32 := by
  rintro rfl; revert h; decide
theorem itoa_no32 (v : Int) : ∀ c ∈ itoa v, c ≠ 32 := by
  intro c hc
  unfold itoa at hc
  split at hc
  · rcases List.mem_cons.1 hc with rfl | hc
    · decide
    · exact isDig_ne32 (decDigits_isDig _ c hc)
  · exact isDig_ne32 (decDigits_isDig _ c hc)
/-- The first blank of a text. -/
theorem cut_blank (a b : List UInt8) (ha : ∀ c ∈ a, c ≠ 32) : cut (a ++ 32 :: b) [32] = (a, b, true) := by
  have h : index (a ++ 32 :: b) [32] = (a.length : Int) := by
    refine index_first (by simp) ?_ ?_
    · rw [occAt_take]; simp
    · intro j hj
      rw [occAt_take, List.drop_append_of_le_length (by omega)]
      cases hd : a.drop j with
      | nil => have := congrArg List.length hd; simp at this; omega
      | cons c r =>
        have hc : c ∈ a := List.mem_of_mem_drop (i := j) (by rw [hd]; exact List.mem_cons_self)
        have := ha c hc
        simpa using this
  unfold cut
  rw [h, if_pos (by omega)]
  simp
theorem take_bad {l : List UInt8} (h : ∃ c ∈ l, c = 32) : takeE l ≠ 0 := by
  intro h0
  have := (takeE_zero.1 h0).1
  obtain ⟨c, hc, rfl⟩ := h
  rw [this] at hc
  exact itoa_no32 _ _ hc rfl
theorem take_lead0 (l : List UInt8) (hl : l ≠ []) : takeE (48 :: l) ≠ 0 := by
  intro h0
  have := (takeE_zero.1 h0).2.2
  have hp := (plain_of_plus this (by simp)).1
  rw [plain_zero false (48 :: l) (by rfl) (Or.inl (by cases l with | nil => exact absurd rfl hl | cons _ _ => simp))] at hp
  cases hp
theorem good_chain (n k : Int) (n0 : 0 ≤ n) (n1 : n < 30) (k0 : 0 ≤ k) (k1 : k < 30) :
    goodLink (chainTxt n k) = decide (2 ≤ n ∧ n ≤ 15 ∧ 1 ≤ k ∧ k ≤ n) ∧ cut (chainTxt n k) [32] = (itoa n, itoa k, true) := by
  have hc : cut (chainTxt n k) [32] = (itoa n, itoa k, true) := cut_blank _ _ (itoa_no32 n)
  refine ⟨?_, hc⟩
  unfold goodLink
  rw [hc]
  have a := take_itoa (v := n) (by omega) (by omega)
  have b := take_itoa (v := k) (by omega) (by omega)
  simp only [a.1, a.2, b.1, b.2, true_and]
theorem aux_of_not {s : ByteArray} {ex : List (ByteArray × ByteArray)} (h : getV ex gitChain = s) (hg : goodLink (bs s) = false) : isAux ex = false := by
  unfold isAux; rw [h, hg]; rfl
theorem aux_chain (n k : Int) (n0 : 0 ≤ n) (n1 : n < 30) (k0 : 0 ≤ k) (k1 : k < 30) {ex : List (ByteArray × ByteArray)} (h : getV ex gitChain = str (chainTxt n k)) :
    isAux ex = decide (2 ≤ n ∧ n ≤ 15 ∧ 1 ≤ k ∧ k < n) := by
  obtain ⟨hg, hc⟩ := good_chain n k n0 n1 k0 k1
  have hbs : bs (str (chainTxt n k)) = chainTxt n k := by simp [bs, str]
  unfold isAux linkN linkK
  rw [h, hbs, hg, hc]
  have a := take_itoa (v := n) (by omega) (by omega)
  have b := take_itoa (v := k) (by omega) (by omega)
  simp only [a.1, b.1]
  by_cases hh : 2 ≤ n ∧ n ≤ 15 ∧ 1 ≤ k ∧ k ≤ n
  · rw [decide_eq_true hh]
    simp only [if_true, Bool.true_and]
    by_cases h2 : k < n
    · rw [decide_eq_true h2, decide_eq_true (by omega)]
    · rw [decide_eq_false h2, decide_eq_false (by omega)]
  · rw [decide_eq_false hh, decide_eq_false (show ¬ (2 ≤ n ∧ n ≤ 15 ∧ 1 ≤ k ∧ k < n) by omega)]; rfl
theorem good_behind (n k : Int) (t : List UInt8) : goodLink (chainTxt n k ++ 32 :: t) = false := by
  have hc : cut (chainTxt n k ++ 32 :: t) [32] = (itoa n, itoa k ++ 32 :: t, true) := by
    unfold chainTxt; rw [List.append_assoc]; exact cut_blank _ _ (itoa_no32 n)
  unfold goodLink
  rw [hc]
  exact decide_eq_false fun h => take_bad ⟨32, by simp, rfl⟩ h.2.1
theorem good_ahead (n k : Int) : goodLink (48 :: chainTxt n k) = false := by
  have hc : cut (48 :: chainTxt n k) [32] = (48 :: itoa n, itoa k, true) := by
    unfold chainTxt
    rw [← List.cons_append]
    exact cut_blank _ _ (by
      intro c hc
      rcases List.mem_cons.1 hc with rfl | hc
      · decide
      · exact itoa_no32 _ _ hc)
  unfold goodLink
  rw [hc]
  exact decide_eq_false fun h => take_lead0 _ (itoa_ne_nil n) h.1
theorem getV_two (a b s : ByteArray) (hab : (a.toList == gitChain.toList) = false) : getV [(a, b), (gitChain, s)] gitChain = s := by
  unfold getV; simp [List.find?_cons, hab]
theorem getV_one (s : ByteArray) : getV [(gitChain, s)] gitChain = s := by
  unfold getV; simp [List.find?_cons]
end Go.Proofs.YtdekdejnoccajaaDoor
