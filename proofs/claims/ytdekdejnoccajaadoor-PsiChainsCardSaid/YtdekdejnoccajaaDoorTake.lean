/-
  hexa.Number and hexa.TakeNumber.
-/
import Derived.Test.YtdekdejnoccajaaDoorReady
import Derived.Test.YtdekdejnoccajaaDoorShelf
import Derived.Test.YtdekdejnoccajaaDoorNum
import Derived.Test.YtdekdejnoccajaaDoorDig
import Derived.Lib.SmallJoins
set_option linter.unusedVariables false
set_option linter.unusedSimpArgs false
namespace Go.Proofs.YtdekdejnoccajaaDoor
open Go.RowKit Go.Lib

theorem below_grow (w : World) (k : Nat) (os : Array Obj) : Below w.heap.size w (Sort.grow (w.drewN k) os) :=
  ⟨rfl, rfl, rfl, by simp [Sort.grow], fun i hi => by simp [Sort.grow, Array.getElem?_append, hi]⟩

theorem number_any (v : Int) (w : World) (hw : Ready w) (h0 : -9223372036854775808 ≤ v) (h1 : v ≤ 9223372036854775807) :
    Calls Tryd.prog 51 #[.int .i64 v] w fun e w' => e = .returned (.string (str (itoa v))) ∧ Below w.heap.size w w' := by
  go_enter Tryd.func51, Tryd.ntmps51
  go_wp2_with fail
  refine (Tryd.strconv_FormatInt_10 v h0 h1 _ hw.tab).mono ?_
  rintro e w1 ⟨rfl, k, os, rfl⟩
  go_wp2_with fail
  go_ret
  exact ⟨rfl, below_grow _ _ _⟩

/-- The bytes of a text. -/
abbrev bs (s : ByteArray) : List UInt8 := s.data.toList
theorem str_bs (s : ByteArray) : str (bs s) = s := rfl
theorem toList_bs (s : ByteArray) : s.toList = bs s := ByteArray.toList_eq s

set_option maxRecDepth 100000 in
theorem take_any (s : ByteArray) (w : World) (hw : Ready w) (hs : s.size ≤ 281474976710656) :
    Calls Tryd.prog 34 #[.string s] w fun e w' => e = .returned (.tuple #[.int .i64 (takeV (bs s)), .int .i64 (takeE (bs s))]) ∧ Below w.heap.size w w' := by
  have hts := toList_bs s
  by_cases hne : bs s = []
  · have h0 : (s.toList == ([] : List UInt8)) = true := by rw [hts, hne]; rfl
    have HF : Hid (takeE (bs s) = 3 ∧ takeV (bs s) = 0) := Lib.hid (by rw [hne]; exact ⟨rfl, rfl⟩)
    clear hne hts
    go_enter Tryd.func34, Tryd.ntmps34
    go_wp2_with fail
    go_ret2
    rw [HF.out.1, HF.out.2]
    exact ⟨rfl, Below.refl _ _⟩
  · have h0 : (s.toList == ([] : List UInt8)) = false := by rw [hts]; simpa using hne
    rcases hp : parseIntB 64 (bs s) with v | _ | _
    ·
      have hb := parseIntB_bounds hp
      simp only [Nat.reducePow, Nat.reduceSub] at hb
      have HP := Lib.hid hp
      have hb0 : -9223372036854775808 ≤ v := by omega
      have hb1 : v ≤ 9223372036854775807 := by omega
      clear hb hp
      by_cases heq : itoa v = bs s
      · have h1 : ((str (itoa v)).toList == s.toList) = true := by rw [str_toList, hts, heq]; simp
        have HF : Hid (takeE (bs s) = 0 ∧ takeV (bs s) = v) := Lib.hid ⟨by unfold takeE; rw [if_neg hne]; unfold numOf; rw [HP.out]; simp [heq], by unfold takeV numOf; rw [HP.out]; simp [heq]⟩
        clear heq hne hts
        go_enter Tryd.func34, Tryd.ntmps34
        go_wp2_with fail
        refine (Tryd.strconv_ParseInt_10_at64_ok s (by omega) v HP.out _).mono ?_
        rintro e w1 ⟨rfl, hw1⟩
        have hb1' : Below w.heap.size w w1 := by
          rcases hw1 with rfl | ⟨t, rfl⟩
          · exact Below.refl _ _
          · exact Joins.below_bytesWorld _ _ _ _ (Nat.le_refl _)
        clear hw1
        go_wp2_with fail
        refine (number_any v _ (hw.below hb1') hb0 hb1).mono ?_
        rintro e w2 ⟨rfl, hb2⟩
        go_wp2_with fail
        go_ret2
        rw [HF.out.1, HF.out.2]
        exact ⟨rfl, below_call hb1' hb2⟩
      · have h1 : ((str (itoa v)).toList == s.toList) = false := by rw [str_toList, hts]; simpa using heq
        have HF : Hid (takeE (bs s) = 4 ∧ takeV (bs s) = 0) := Lib.hid ⟨by unfold takeE; rw [if_neg hne]; unfold numOf; rw [HP.out]; simp [heq], by unfold takeV numOf; rw [HP.out]; simp [heq]⟩
        clear heq hne hts
        go_enter Tryd.func34, Tryd.ntmps34
        go_wp2_with fail
        refine (Tryd.strconv_ParseInt_10_at64_ok s (by omega) v HP.out _).mono ?_
        rintro e w1 ⟨rfl, hw1⟩
        have hb1' : Below w.heap.size w w1 := by
          rcases hw1 with rfl | ⟨t, rfl⟩
          · exact Below.refl _ _
          · exact Joins.below_bytesWorld _ _ _ _ (Nat.le_refl _)
        clear hw1
        go_wp2_with fail
        refine (number_any v _ (hw.below hb1') hb0 hb1).mono ?_
        rintro e w2 ⟨rfl, hb2⟩
        go_wp2_with fail
        go_ret2
        rw [HF.out.1, HF.out.2]
        exact ⟨rfl, below_call hb1' hb2⟩
    ·
      obtain ⟨tp, p, hv⟩ := hw.syn
      have HF : Hid (takeE (bs s) = 4 ∧ takeV (bs s) = 0) := Lib.hid ⟨by unfold takeE; rw [if_neg hne]; unfold numOf; rw [hp]; rfl, by unfold takeV numOf; rw [hp]; rfl⟩
      have HP := Lib.hid hp
      clear hne hp hts
      go_enter Tryd.func34, Tryd.ntmps34
      go_wp2_with fail
      refine (Tryd.strconv_ParseInt_10_at64_syntax s hs HP.out _ _ hv (Or.inr ⟨tp, p, rfl⟩)).mono ?_
      rintro e w1 ⟨N, rfl, _, _, hb1⟩
      go_wp2_with fail
      go_ret2
      rw [HF.out.1, HF.out.2]
      exact ⟨rfl, hb1⟩
    ·
      obtain ⟨tp, p, hv⟩ := hw.rng
      have HF : Hid (takeE (bs s) = 4 ∧ takeV (bs s) = 0) := Lib.hid ⟨by unfold takeE; rw [if_neg hne]; unfold numOf; rw [hp]; rfl, by unfold takeV numOf; rw [hp]; rfl⟩
      have HP := Lib.hid hp
      clear hne hp hts
      go_enter Tryd.func34, Tryd.ntmps34
      go_wp2_with fail
      refine (Tryd.strconv_ParseInt_10_at64_range s hs HP.out _ _ hv (Or.inr ⟨tp, p, rfl⟩)).mono ?_
      rintro e w1 ⟨N, rfl, _, _, hb1⟩
      go_wp2_with fail
      go_ret2
      rw [HF.out.1, HF.out.2]
      exact ⟨rfl, hb1⟩
end Go.Proofs.YtdekdejnoccajaaDoor
