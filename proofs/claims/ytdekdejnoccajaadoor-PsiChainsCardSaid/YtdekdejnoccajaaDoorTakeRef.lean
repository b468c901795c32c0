/-
  The reference's TakeNumber.
-/
import Derived.Test.YtdekdejnoccajaaDoorBase
import Derived.Test.YtdekdejnoccajaaDoorNum
import Derived.Test.YtdekdejnoccajaaDoorDig
import Derived.Lib.Strings
set_option linter.unusedVariables false
set_option linter.unusedSimpArgs false
namespace Go.Proofs.YtdekdejnoccajaaDoor
open Go.RowKit Go.Lib

theorem take_none {l : List UInt8} (hne : l ≠ []) (h : numOf l = none) : takeE l = 4 ∧ takeV l = 0 := by
  unfold takeE takeV; rw [if_neg hne, h]; exact ⟨rfl, rfl⟩
theorem take_some {l : List UInt8} {v : Int} (hne : l ≠ []) (h : numOf l = some v) : takeE l = 0 ∧ takeV l = v := by
  unfold takeE takeV; rw [if_neg hne, h]; exact ⟨rfl, rfl⟩
/-- The reference's test of what stands behind the sign. -/
def okNum (minus : Bool) (d : List UInt8) : Prop := plainDigits minus d = true ∧ digVal 0 d ≤ 9223372036854775808 ∧ (minus = false → digVal 0 d < 9223372036854775808)
theorem res_ok_plus {d : List UInt8} (hne : d ≠ []) (h : okNum false d) : takeE d = 0 ∧ takeV d = (digVal 0 d : Int) := take_some hne (numOf_plus h.1 (h.2.2 rfl))
theorem res_ok_minus {d : List UInt8} (h : okNum true d) : takeE (45 :: d) = 0 ∧ takeV (45 :: d) = -(digVal 0 d : Int) := take_some (by simp) (numOf_minus h.1 h.2.1)
theorem res_no_plus {d : List UInt8} (hne : d ≠ []) (h45 : d.head?.map (·.toNat) ≠ some 45) (h : ¬ okNum false d) : takeE d = 4 ∧ takeV d = 0 := by
  refine take_none hne ?_
  cases hn : numOf d with
  | none => rfl
  | some v =>
    have := plain_of_plus hn h45
    exact absurd ⟨this.1, by omega, fun _ => this.2⟩ h
theorem res_no_minus {d : List UInt8} (h : ¬ okNum true d) : takeE (45 :: d) = 4 ∧ takeV (45 :: d) = 0 := by
  refine take_none (by simp) ?_
  cases hn : numOf (45 :: d) with
  | none => rfl
  | some v =>
    have := plain_of_minus hn
    exact absurd ⟨this.1, this.2, fun h => by cases h⟩ h

theorem plain_empty (m : Bool) : plainDigits m [] = false := by unfold plainDigits; simp
theorem plain_long (m : Bool) (d : List UInt8) (h : 19 < d.length) : plainDigits m d = false := by
  unfold plainDigits; rw [show decide (d.length ≤ 19) = false from decide_eq_false (by omega)]; simp
theorem plain_zero (m : Bool) (d : List UInt8) (h : d.head?.map (·.toNat) = some 48) (h2 : 1 < d.length ∨ m = true) : plainDigits m d = false := by
  unfold plainDigits
  rw [show decide (d.head?.map (·.toNat) = some 48) = true from decide_eq_true h]
  rcases h2 with h2 | h2
  · rw [show decide (1 < d.length) = true from decide_eq_true h2]; simp
  · rw [h2]; simp
theorem plain_odd (m : Bool) (d : List UInt8) (k : Nat) (hk : k < d.length) (h : isDig d[k] = false) : plainDigits m d = false := by
  unfold plainDigits
  have : d.all isDig = false := List.all_eq_false.2 ⟨d[k], List.getElem_mem hk, by rw [h]; simp⟩
  rw [this]; simp
theorem plain_mk (m : Bool) (d : List UInt8) (h0 : d ≠ []) (h1 : d.length ≤ 19) (h2 : d.head?.map (·.toNat) ≠ some 48 ∨ (d.length = 1 ∧ m = false)) (h3 : ∀ c ∈ d, isDig c = true) : plainDigits m d = true := by
  unfold plainDigits
  rw [show decide (d ≠ []) = true from decide_eq_true h0, show decide (d.length ≤ 19) = true from decide_eq_true h1, show d.all isDig = true from List.all_eq_true.2 h3]
  rcases h2 with h2 | ⟨h2, h2'⟩
  · rw [show decide (d.head?.map (·.toNat) = some 48) = false from decide_eq_false h2]; simp
  · rw [h2', show decide (1 < d.length) = false from decide_eq_false (by omega)]; simp

theorem head_at (s : ByteArray) (h : 0 < s.size) : s.data.toList.head?.map (·.toNat) = some (s[0]'h).toNat := by
  have : s.data.toList = s[0] :: s.data.toList.tail := by
    have hl : 0 < s.data.toList.length := h
    cases hd : s.data.toList with
    | nil => rw [hd] at hl; simp at hl
    | cons c r =>
      have e : s[0] = c := by
        show s.data[0] = c
        have : s.data.toList[0] = c := by simp [hd]
        simpa using this
      rw [e]; rfl
  rw [this]; rfl
theorem tail_at (s : ByteArray) (h : 0 < s.size) : s.data.toList = (s[0]'h) :: (s.extract 1 s.size).data.toList := by
  rw [extract_data]
  have hl : s.data.toList.length = s.size := rfl
  have e2 : (s.data.toList.drop 1).take (s.size - 1) = s.data.toList.drop 1 := List.take_of_length_le (by rw [List.length_drop, hl]; omega)
  rw [e2]
  cases hd : s.data.toList with
  | nil => rw [hd] at hl; simp at hl; omega
  | cons c r =>
    have e : s[0] = c := by
      show s.data[0] = c
      have : s.data.toList[0]'(by rw [hd]; simp) = c := by simp [hd]
      simpa using this
    rw [e]; rfl
theorem take_next (s : ByteArray) (k : Nat) (h : k < s.size) : s.data.toList.take (k + 1) = s.data.toList.take k ++ [s[k]] := by
  rw [List.take_succ_eq_append_getElem (by simpa using h)]; rfl
theorem take_all (s : ByteArray) : s.data.toList.take s.size = s.data.toList := List.take_of_length_le (Nat.le_refl s.size)

theorem digVal_take_lt (s : ByteArray) (k : Nat) (hk : k ≤ 18) (h : ∀ c ∈ s.data.toList.take k, isDig c = true) : digVal 0 (s.data.toList.take k) ≤ 999999999999999999 := by
  have h1 := digVal_lt _ 0 h
  have h2 : (s.data.toList.take k).length ≤ 18 := Nat.le_trans (List.length_take_le _ _) hk
  have h3 : 10 ^ (s.data.toList.take k).length ≤ 10 ^ 18 := Nat.pow_le_pow_right (by decide) h2
  have h4 : (10 : Nat) ^ 18 = 1000000000000000000 := by decide
  omega

/-- What stands behind the sign: the loop over digits and the test of the range: the rest of the function, as one lemma for both signs. -/
def RefOut (minus : Bool) (d : ByteArray) (v e : Int) : Prop :=
  (okNum minus d.data.toList → e = 0 ∧ v = if minus then -(digVal 0 d.data.toList : Int) else (digVal 0 d.data.toList : Int)) ∧ (¬ okNum minus d.data.toList → e = 4 ∧ v = 0)
theorem RefOut.no {minus : Bool} {d : ByteArray} (h : ¬ okNum minus d.data.toList) : RefOut minus d 0 4 := ⟨fun h' => absurd h' h, fun _ => ⟨rfl, rfl⟩⟩
theorem RefOut.noP {minus : Bool} {d : ByteArray} (h : plainDigits minus d.data.toList = false) : RefOut minus d 0 4 := .no fun h' => by rw [h'.1] at h; cases h
theorem RefOut.take_plus {s : ByteArray} {v e : Int} (hne : 0 < s.size) (h45 : (s[0]'hne).toNat ≠ 45) (h : RefOut false s v e) : e = takeE s.data.toList ∧ v = takeV s.data.toList := by
  have hn : s.data.toList ≠ [] := fun h => by have : s.size = 0 := by show s.data.toList.length = 0; rw [h]; rfl
                                              omega
  by_cases ho : okNum false s.data.toList
  · have := h.1 ho; have r := res_ok_plus hn ho; exact ⟨this.1.trans r.1.symm, this.2.trans r.2.symm⟩
  · have := h.2 ho; have r := res_no_plus hn (by rw [head_at s hne]; simpa using h45) ho; exact ⟨this.1.trans r.1.symm, this.2.trans r.2.symm⟩
theorem RefOut.take_minus {s : ByteArray} {v e : Int} (hne : 0 < s.size) (h45 : (s[0]'hne).toNat = 45) (h : RefOut true (s.extract 1 s.size) v e) : e = takeE s.data.toList ∧ v = takeV s.data.toList := by
  have hc : s[0]'hne = 45 := UInt8.toNat_inj.1 (by rw [h45]; rfl)
  have ht := tail_at s hne
  rw [hc] at ht
  rw [ht]
  by_cases ho : okNum true (s.extract 1 s.size).data.toList
  · have := h.1 ho; have r := res_ok_minus ho; exact ⟨this.1.trans r.1.symm, this.2.trans r.2.symm⟩
  · have := h.2 ho; have r := res_no_minus ho; exact ⟨this.1.trans r.1.symm, this.2.trans r.2.symm⟩

set_option maxHeartbeats 4000000 in
set_option maxRecDepth 100000 in
theorem takeRef_plus (s : ByteArray) (w : World) (hs : s.size ≤ 140737488351232) (hne : 0 < s.size) (h45 : (s[0]'hne).toNat ≠ 45) :
    Calls Tryd.prog 37 #[.string s] w fun r w' => (∃ v e, RefOut false s v e ∧ r = .returned (.tuple #[.int .i64 v, .int .i64 e])) ∧ w = w' := by
  have hl0 : (s.toList == ([] : List UInt8)) = false := by
    rw [toList_data, beq_eq_false_iff_ne]; intro e
    have : s.size = 0 := by show s.data.toList.length = 0; rw [e]; rfl
    omega
  obtain ⟨c0, hc0⟩ : ∃ c0 : Nat, (s[0]'hne).toNat = c0 := ⟨_, rfl⟩
  have hs0 : ∀ h : 0 < s.size, ((s[0]'h).toNat : Int) = (c0 : Int) := fun _ => by rw [hc0]
  have hh : s.data.toList.head?.map (·.toNat) = some c0 := by rw [head_at s hne, hc0]
  have hn : s.data.toList ≠ [] := fun h => by have : s.size = 0 := by show s.data.toList.length = 0; rw [h]; rfl
                                              omega
  have hlen : s.data.toList.length = s.size := rfl
  have hb45 : ((c0 : Int) == 45) = false := by rw [beq_eq_false_iff_ne]; omega
  have HH := Lib.hid hh
  have HN := Lib.hid hn
  have HL := Lib.hid hlen
  clear h45 hc0 hh hn hlen
  rcases (show 19 < s.size ∨ (s.size ≤ 19 ∧ c0 = 48 ∧ 1 < s.size) ∨ (s.size ≤ 19 ∧ c0 = 48 ∧ s.size ≤ 1) ∨ (s.size ≤ 19 ∧ c0 ≠ 48) by omega) with h19 | ⟨h19, hz, h1⟩ | ⟨h19, hz, h1⟩ | ⟨h19, hz⟩
  · have HP : Hid (plainDigits false s.data.toList = false) := Lib.hid (plain_long _ _ (by rw [HL.out]; exact h19))
    go_enter Tryd.func37, Tryd.ntmps37
    go_wp2_with fail
    go_ret2
    exact ⟨⟨0, 4, .noP HP.out, rfl⟩, rfl⟩
  · have HP : Hid (plainDigits false s.data.toList = false) := Lib.hid (plain_zero _ _ (by rw [HH.out, hz]) (Or.inl (by rw [HL.out]; exact h1)))
    have hb48 : ((c0 : Int) == 48) = true := by rw [beq_iff_eq]; omega
    clear hz
    go_enter Tryd.func37, Tryd.ntmps37
    go_wp2_with fail
    go_ret2
    exact ⟨⟨0, 4, .noP HP.out, rfl⟩, rfl⟩
  · have PL : Hid ((∀ c ∈ s.data.toList, isDig c = true) → plainDigits false s.data.toList = true) := Lib.hid (plain_mk _ _ HN.out (by rw [HL.out]; exact h19) (Or.inr ⟨by rw [HL.out]; omega, rfl⟩))
    have hb48 : ((c0 : Int) == 48) = true := by rw [beq_iff_eq]; omega
    clear hz
    go_enter Tryd.func37, Tryd.ntmps37
    go_wp2_with fail
    go_loop [6, 7] (fun v i => ∃ k : Nat, k ≤ s.size ∧ i = .int .i64 k ∧ v = .int .u64 (digVal 0 (s.data.toList.take k)) ∧ Hid (∀ c ∈ s.data.toList.take k, isDig c = true)) (fun _ i => s.size - (intOf i).toNat)
    case atStart => exact ⟨0, Nat.zero_le _, rfl, rfl, Lib.hid (by simp)⟩
    case round =>
      obtain ⟨k, hk, rfl, rfl, HD⟩ := hrel
      obtain ⟨V, hV⟩ : ∃ V, digVal 0 (s.data.toList.take k) = V := ⟨_, rfl⟩
      by_cases hlt : k < s.size
      · obtain ⟨c, hc⟩ : ∃ c, c = s[k]'hlt := ⟨_, rfl⟩
        obtain ⟨x, hx⟩ : ∃ x : Nat, c.toNat = x := ⟨_, rfl⟩
        have hck : ∀ h : k < s.size, ((s[k]'h).toNat : Int) = (x : Int) := fun _ => by rw [← hc, hx]
        have hx255 : x ≤ 255 := by have := c.toNat_lt; omega
        have hmem : c ∈ s.data.toList := by rw [hc]; exact List.getElem_mem (l := s.data.toList) hlt
        have hVle : V ≤ 999999999999999999 := by rw [← hV]; exact digVal_take_lt _ _ (by omega) HD.out
        have HX := Lib.hid hx
        have HC := Lib.hid hc
        have HM := Lib.hid hmem
        have HV0 := Lib.hid hV
        clear hx hc hmem
        rcases (show (48 ≤ x ∧ x ≤ 57) ∨ x < 48 ∨ 57 < x by omega) with ⟨hx1, hx2⟩ | hx1 | hx1
        · go_wp2
          go_round
          case rel =>
            refine ⟨k + 1, by omega, by go_num, ?_, Lib.hid ?_⟩
            · rw [take_next s k hlt, digVal_append, HV0.out, ← HC.out, digVal_cons, digVal_nil, HX.out]
              congr 1; omega
            · rw [take_next s k hlt, ← HC.out]
              intro y hy
              rcases List.mem_append.1 hy with hy | hy
              · exact HD.out y hy
              · simp only [List.mem_singleton] at hy; subst hy
                unfold isDig; exact decide_eq_true (by rw [HX.out]; omega)
          case measure => simp [intOf]; omega
        all_goals (
          have HP : Hid (plainDigits false s.data.toList = false) := Lib.hid (plain_odd _ _ k hlt (by
            show isDig (s[k]'hlt) = false
            rw [← HC.out]; unfold isDig; exact decide_eq_false (by rw [HX.out]; omega)))
          go_wp2
          go_ret2
          exact ⟨⟨0, 4, .noP HP.out, rfl⟩, rfl⟩)
      · obtain rfl : k = s.size := by omega
        have HV : Hid (digVal 0 s.data.toList = V) := Lib.hid (by rw [← hV, take_all])
        have HA : Hid (∀ c ∈ s.data.toList, isDig c = true) := Lib.hid (by have := HD.out; rwa [take_all] at this)
        have HPL := Lib.hid (PL.out HA.out)
        clear HD
        rcases (show V < 9223372036854775808 ∨ (9223372036854775808 ≤ V ∧ V ≤ 9223372036854775808) ∨ 9223372036854775808 < V by omega) with h63 | ⟨h63, h63'⟩ | h63
        · have HO : Hid (okNum false s.data.toList) := Lib.hid ⟨HPL.out, by rw [HV.out]; omega, fun _ => by rw [HV.out]; exact h63⟩
          have hb : ((V : Int) == 9223372036854775808) = false := by rw [beq_eq_false_iff_ne]; omega
          go_wp2
          go_ret2
          exact ⟨⟨_, _, ⟨fun _ => ⟨rfl, by rw [HV.out]; rfl⟩, fun h => absurd HO.out h⟩, rfl⟩, rfl⟩
        · have HO : Hid (¬ okNum false s.data.toList) := Lib.hid (fun h => by have := h.2.2 rfl; rw [HV.out] at this; omega)
          have hb : ((V : Int) == 9223372036854775808) = true := by rw [beq_iff_eq]; omega
          go_wp2
          go_ret2
          exact ⟨⟨0, 4, .no HO.out, rfl⟩, rfl⟩
        · have HO : Hid (¬ okNum false s.data.toList) := Lib.hid (fun h => by have := h.2.1; rw [HV.out] at this; omega)
          go_wp2
          go_ret2
          exact ⟨⟨0, 4, .no HO.out, rfl⟩, rfl⟩
  · have PL : Hid ((∀ c ∈ s.data.toList, isDig c = true) → plainDigits false s.data.toList = true) := Lib.hid (plain_mk _ _ HN.out (by rw [HL.out]; exact h19) (Or.inl (by rw [HH.out]; simpa using hz)))
    have hb48 : ((c0 : Int) == 48) = false := by rw [beq_eq_false_iff_ne]; omega
    clear hz
    go_enter Tryd.func37, Tryd.ntmps37
    go_wp2_with fail
    go_loop [6, 7] (fun v i => ∃ k : Nat, k ≤ s.size ∧ i = .int .i64 k ∧ v = .int .u64 (digVal 0 (s.data.toList.take k)) ∧ Hid (∀ c ∈ s.data.toList.take k, isDig c = true)) (fun _ i => s.size - (intOf i).toNat)
    case atStart => exact ⟨0, Nat.zero_le _, rfl, rfl, Lib.hid (by simp)⟩
    case round =>
      obtain ⟨k, hk, rfl, rfl, HD⟩ := hrel
      obtain ⟨V, hV⟩ : ∃ V, digVal 0 (s.data.toList.take k) = V := ⟨_, rfl⟩
      by_cases hlt : k < s.size
      · obtain ⟨c, hc⟩ : ∃ c, c = s[k]'hlt := ⟨_, rfl⟩
        obtain ⟨x, hx⟩ : ∃ x : Nat, c.toNat = x := ⟨_, rfl⟩
        have hck : ∀ h : k < s.size, ((s[k]'h).toNat : Int) = (x : Int) := fun _ => by rw [← hc, hx]
        have hx255 : x ≤ 255 := by have := c.toNat_lt; omega
        have hmem : c ∈ s.data.toList := by rw [hc]; exact List.getElem_mem (l := s.data.toList) hlt
        have hVle : V ≤ 999999999999999999 := by rw [← hV]; exact digVal_take_lt _ _ (by omega) HD.out
        have HX := Lib.hid hx
        have HC := Lib.hid hc
        have HM := Lib.hid hmem
        have HV0 := Lib.hid hV
        clear hx hc hmem
        rcases (show (48 ≤ x ∧ x ≤ 57) ∨ x < 48 ∨ 57 < x by omega) with ⟨hx1, hx2⟩ | hx1 | hx1
        · go_wp2
          go_round
          case rel =>
            refine ⟨k + 1, by omega, by go_num, ?_, Lib.hid ?_⟩
            · rw [take_next s k hlt, digVal_append, HV0.out, ← HC.out, digVal_cons, digVal_nil, HX.out]
              congr 1; omega
            · rw [take_next s k hlt, ← HC.out]
              intro y hy
              rcases List.mem_append.1 hy with hy | hy
              · exact HD.out y hy
              · simp only [List.mem_singleton] at hy; subst hy
                unfold isDig; exact decide_eq_true (by rw [HX.out]; omega)
          case measure => simp [intOf]; omega
        all_goals (
          have HP : Hid (plainDigits false s.data.toList = false) := Lib.hid (plain_odd _ _ k hlt (by
            show isDig (s[k]'hlt) = false
            rw [← HC.out]; unfold isDig; exact decide_eq_false (by rw [HX.out]; omega)))
          go_wp2
          go_ret2
          exact ⟨⟨0, 4, .noP HP.out, rfl⟩, rfl⟩)
      · obtain rfl : k = s.size := by omega
        have HV : Hid (digVal 0 s.data.toList = V) := Lib.hid (by rw [← hV, take_all])
        have HA : Hid (∀ c ∈ s.data.toList, isDig c = true) := Lib.hid (by have := HD.out; rwa [take_all] at this)
        have HPL := Lib.hid (PL.out HA.out)
        clear HD
        rcases (show V < 9223372036854775808 ∨ (9223372036854775808 ≤ V ∧ V ≤ 9223372036854775808) ∨ 9223372036854775808 < V by omega) with h63 | ⟨h63, h63'⟩ | h63
        · have HO : Hid (okNum false s.data.toList) := Lib.hid ⟨HPL.out, by rw [HV.out]; omega, fun _ => by rw [HV.out]; exact h63⟩
          have hb : ((V : Int) == 9223372036854775808) = false := by rw [beq_eq_false_iff_ne]; omega
          go_wp2
          go_ret2
          exact ⟨⟨_, _, ⟨fun _ => ⟨rfl, by rw [HV.out]; rfl⟩, fun h => absurd HO.out h⟩, rfl⟩, rfl⟩
        · have HO : Hid (¬ okNum false s.data.toList) := Lib.hid (fun h => by have := h.2.2 rfl; rw [HV.out] at this; omega)
          have hb : ((V : Int) == 9223372036854775808) = true := by rw [beq_iff_eq]; omega
          go_wp2
          go_ret2
          exact ⟨⟨0, 4, .no HO.out, rfl⟩, rfl⟩
        · have HO : Hid (¬ okNum false s.data.toList) := Lib.hid (fun h => by have := h.2.1; rw [HV.out] at this; omega)
          go_wp2
          go_ret2
          exact ⟨⟨0, 4, .no HO.out, rfl⟩, rfl⟩

theorem digVal_pos (d : List UInt8) (c0 : Nat) (hh : d.head?.map (·.toNat) = some c0) (h0 : c0 ≠ 48) (ha : ∀ c ∈ d, isDig c = true) : 1 ≤ digVal 0 d := by
  cases d with
  | nil => simp at hh
  | cons c r =>
    have hc : isDig c = true := ha c List.mem_cons_self
    unfold isDig at hc
    have hc' := of_decide_eq_true hc
    have hh' : c.toNat = c0 := by simpa using hh
    have := digVal_mono r (10 * 0 + (c.toNat - 48))
    rw [digVal_cons]; omega

set_option maxHeartbeats 4000000 in
set_option maxRecDepth 100000 in
theorem takeRef_minus (s d : ByteArray) (w : World) (hs : s.size ≤ 140737488351232) (hne : 0 < s.size) (h45 : (s[0]'hne).toNat = 45) (hd : s.extract 1 s.size = d) :
    Calls Tryd.prog 37 #[.string s] w fun r w' => (∃ v e, RefOut true d v e ∧ r = .returned (.tuple #[.int .i64 v, .int .i64 e])) ∧ w = w' := by
  have hl0 : (s.toList == ([] : List UInt8)) = false := by
    rw [toList_data, beq_eq_false_iff_ne]; intro e
    have : s.size = 0 := by show s.data.toList.length = 0; rw [e]; rfl
    omega
  have hs0 : ∀ h : 0 < s.size, ((s[0]'h).toNat : Int) = 45 := fun _ => by rw [h45]; rfl
  have hds : d.size ≤ s.size := by rw [← hd, Lib.size_eq, extract_data, List.length_take, List.length_drop]; show _ ≤ s.data.toList.length; omega
  have h1s : 1 ≤ s.size := hne
  clear h45
  by_cases hdn : d.size = 0
  · have hd0 : (d.toList == ([] : List UInt8)) = true := by
      rw [toList_data, beq_iff_eq]; exact List.eq_nil_of_length_eq_zero hdn
    have HP : Hid (plainDigits true d.data.toList = false) := Lib.hid (by rw [List.eq_nil_of_length_eq_zero (l := d.data.toList) hdn]; exact plain_empty _)
    clear hdn
    go_enter Tryd.func37, Tryd.ntmps37
    go_wp2_with fail
    go_ret2
    exact ⟨⟨0, 4, .noP HP.out, rfl⟩, rfl⟩
  have hne' : 0 < d.size := by omega
  have hd0 : (d.toList == ([] : List UInt8)) = false := by
    rw [toList_data, beq_eq_false_iff_ne]; intro e
    have : d.size = 0 := by show d.data.toList.length = 0; rw [e]; rfl
    omega
  obtain ⟨c0, hc0⟩ : ∃ c0 : Nat, (d[0]'hne').toNat = c0 := ⟨_, rfl⟩
  have hs1 : ∀ h : 0 < d.size, ((d[0]'h).toNat : Int) = (c0 : Int) := fun _ => by rw [hc0]
  have hh : d.data.toList.head?.map (·.toNat) = some c0 := by rw [head_at d hne', hc0]
  have hn : d.data.toList ≠ [] := fun h => hdn (by show d.data.toList.length = 0; rw [h]; rfl)
  have hlen : d.data.toList.length = d.size := rfl
  have HH := Lib.hid hh
  have HN := Lib.hid hn
  have HL := Lib.hid hlen
  clear hc0 hh hn hlen hdn
  rcases (show 19 < d.size ∨ (d.size ≤ 19 ∧ c0 = 48 ∧ 1 < d.size) ∨ (d.size ≤ 19 ∧ c0 = 48 ∧ d.size ≤ 1) ∨ (d.size ≤ 19 ∧ c0 ≠ 48) by omega) with h19 | ⟨h19, hz, h1⟩ | ⟨h19, hz, h1⟩ | ⟨h19, hz⟩
  · have HP : Hid (plainDigits true d.data.toList = false) := Lib.hid (plain_long _ _ (by rw [HL.out]; exact h19))
    go_enter Tryd.func37, Tryd.ntmps37
    go_wp2_with fail
    go_ret2
    exact ⟨⟨0, 4, .noP HP.out, rfl⟩, rfl⟩
  · have HP : Hid (plainDigits true d.data.toList = false) := Lib.hid (plain_zero _ _ (by rw [HH.out, hz]) (Or.inr rfl))
    have hb48 : ((c0 : Int) == 48) = true := by rw [beq_iff_eq]; omega
    clear hz
    go_enter Tryd.func37, Tryd.ntmps37
    go_wp2_with fail
    go_ret2
    exact ⟨⟨0, 4, .noP HP.out, rfl⟩, rfl⟩
  · have HP : Hid (plainDigits true d.data.toList = false) := Lib.hid (plain_zero _ _ (by rw [HH.out, hz]) (Or.inr rfl))
    have hb48 : ((c0 : Int) == 48) = true := by rw [beq_iff_eq]; omega
    clear hz
    go_enter Tryd.func37, Tryd.ntmps37
    go_wp2_with fail
    go_ret2
    exact ⟨⟨0, 4, .noP HP.out, rfl⟩, rfl⟩
  · have PL : Hid ((∀ c ∈ d.data.toList, isDig c = true) → plainDigits true d.data.toList = true) := Lib.hid (plain_mk _ _ HN.out (by rw [HL.out]; exact h19) (Or.inl (by rw [HH.out]; simpa using hz)))
    have hb48 : ((c0 : Int) == 48) = false := by rw [beq_eq_false_iff_ne]; omega
    have Hz := Lib.hid hz
    clear hz
    go_enter Tryd.func37, Tryd.ntmps37
    go_wp2_with fail
    go_loop [6, 7] (fun v i => ∃ k : Nat, k ≤ d.size ∧ i = .int .i64 k ∧ v = .int .u64 (digVal 0 (d.data.toList.take k)) ∧ Hid (∀ c ∈ d.data.toList.take k, isDig c = true)) (fun _ i => d.size - (intOf i).toNat)
    case atStart => exact ⟨0, Nat.zero_le _, rfl, rfl, Lib.hid (by simp)⟩
    case round =>
      obtain ⟨k, hk, rfl, rfl, HD⟩ := hrel
      obtain ⟨V, hV⟩ : ∃ V, digVal 0 (d.data.toList.take k) = V := ⟨_, rfl⟩
      by_cases hlt : k < d.size
      · obtain ⟨c, hc⟩ : ∃ c, c = d[k]'hlt := ⟨_, rfl⟩
        obtain ⟨x, hx⟩ : ∃ x : Nat, c.toNat = x := ⟨_, rfl⟩
        have hck : ∀ h : k < d.size, ((d[k]'h).toNat : Int) = (x : Int) := fun _ => by rw [← hc, hx]
        have hx255 : x ≤ 255 := by have := c.toNat_lt; omega
        have hmem : c ∈ d.data.toList := by rw [hc]; exact List.getElem_mem (l := d.data.toList) hlt
        have hVle : V ≤ 999999999999999999 := by rw [← hV]; exact digVal_take_lt _ _ (by omega) HD.out
        have HX := Lib.hid hx
        have HC := Lib.hid hc
        have HM := Lib.hid hmem
        have HV0 := Lib.hid hV
        clear hx hc hmem
        rcases (show (48 ≤ x ∧ x ≤ 57) ∨ x < 48 ∨ 57 < x by omega) with ⟨hx1, hx2⟩ | hx1 | hx1
        · go_wp2
          go_round
          case rel =>
            refine ⟨k + 1, by omega, by go_num, ?_, Lib.hid ?_⟩
            · rw [take_next d k hlt, digVal_append, HV0.out, ← HC.out, digVal_cons, digVal_nil, HX.out]
              congr 1; omega
            · rw [take_next d k hlt, ← HC.out]
              intro y hy
              rcases List.mem_append.1 hy with hy | hy
              · exact HD.out y hy
              · simp only [List.mem_singleton] at hy; subst hy
                unfold isDig; exact decide_eq_true (by rw [HX.out]; omega)
          case measure => simp [intOf]; omega
        all_goals (
          have HP : Hid (plainDigits true d.data.toList = false) := Lib.hid (plain_odd _ _ k hlt (by
            show isDig (d[k]'hlt) = false
            rw [← HC.out]; unfold isDig; exact decide_eq_false (by rw [HX.out]; omega)))
          go_wp2
          go_ret2
          exact ⟨⟨0, 4, .noP HP.out, rfl⟩, rfl⟩)
      · obtain rfl : k = d.size := by omega
        have HV : Hid (digVal 0 d.data.toList = V) := Lib.hid (by rw [← hV, take_all])
        have HA : Hid (∀ c ∈ d.data.toList, isDig c = true) := Lib.hid (by have := HD.out; rwa [take_all] at this)
        have HPL := Lib.hid (PL.out HA.out)
        clear HD
        have hV1 : 1 ≤ V := by rw [← HV.out]; exact digVal_pos _ _ HH.out Hz.out (HA.out)
        rcases (show V < 9223372036854775808 ∨ (9223372036854775808 ≤ V ∧ V ≤ 9223372036854775808) ∨ 9223372036854775808 < V by omega) with h63 | ⟨h63, h63'⟩ | h63
        · have HO : Hid (okNum true d.data.toList) := Lib.hid ⟨HPL.out, by rw [HV.out]; omega, fun _ => by rw [HV.out]; exact h63⟩
          have hb : ((V : Int) == 9223372036854775808) = false := by rw [beq_eq_false_iff_ne]; omega
          go_wp2
          go_ret2
          exact ⟨⟨_, _, ⟨fun _ => ⟨rfl, by rw [HV.out]; simp; omega⟩, fun h => absurd HO.out h⟩, rfl⟩, rfl⟩
        · have HO : Hid (okNum true d.data.toList) := Lib.hid ⟨HPL.out, by rw [HV.out]; omega, fun h => by cases h⟩
          have hb : ((V : Int) == 9223372036854775808) = true := by rw [beq_iff_eq]; omega
          go_wp2
          go_ret2
          exact ⟨⟨_, _, ⟨fun _ => ⟨rfl, by rw [HV.out]; simp; omega⟩, fun h => absurd HO.out h⟩, rfl⟩, rfl⟩
        · have HO : Hid (¬ okNum true d.data.toList) := Lib.hid (fun h => by have := h.2.1; rw [HV.out] at this; omega)
          go_wp2
          go_ret2
          exact ⟨⟨0, 4, .no HO.out, rfl⟩, rfl⟩

/-- The reference's TakeNumber answers what the program's does. -/
theorem takeRef_any (s : ByteArray) (w : World) (hs : s.size ≤ 140737488351232) :
    Calls Tryd.prog 37 #[.string s] w fun r w' => r = .returned (.tuple #[.int .i64 (takeV s.data.toList), .int .i64 (takeE s.data.toList)]) ∧ w = w' := by
  by_cases hne : 0 < s.size
  · by_cases h45 : (s[0]'hne).toNat = 45
    · refine (takeRef_minus s _ w hs hne h45 rfl).mono ?_
      rintro r w1 ⟨⟨v, e, h, rfl⟩, rfl⟩
      have := h.take_minus hne h45
      rw [this.1, this.2]; exact ⟨rfl, rfl⟩
    · refine (takeRef_plus s w hs hne h45).mono ?_
      rintro r w1 ⟨⟨v, e, h, rfl⟩, rfl⟩
      have := h.take_plus hne h45
      rw [this.1, this.2]; exact ⟨rfl, rfl⟩
  · have h0 : s.data.toList = [] := List.eq_nil_of_length_eq_zero (show s.size = 0 by omega)
    have hl0 : (s.toList == ([] : List UInt8)) = true := by rw [toList_data, h0]; rfl
    rw [h0]
    go_enter Tryd.func37, Tryd.ntmps37
    go_wp2_with fail
    go_ret2
    exact ⟨rfl, rfl⟩
end Go.Proofs.YtdekdejnoccajaaDoor
