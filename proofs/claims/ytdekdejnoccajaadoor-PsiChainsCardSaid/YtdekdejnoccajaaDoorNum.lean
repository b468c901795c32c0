/-
  PURE MATHEMATICS, no program: decimal numerals. 'takeNum' is what both TakeNumber functions answer: the number whose numeral the bytes are, or why there is none.
-/
import Derived.Lib.ItoaMem
import Derived.Lib.ItoaLen
import Derived.Lib.ParseIntBTie
set_option linter.unusedVariables false
set_option linter.unusedSimpArgs false
namespace Go.Proofs.YtdekdejnoccajaaDoor
open Go.Lib

/-- The value of a list of digits, the first ahead, behind what was read before. -/
def digVal (acc : Nat) (l : List UInt8) : Nat := l.foldl (fun a c => 10 * a + (c.toNat - 48)) acc
theorem digVal_nil (acc : Nat) : digVal acc [] = acc := rfl
theorem digVal_cons (acc : Nat) (c : UInt8) (r : List UInt8) : digVal acc (c :: r) = digVal (10 * acc + (c.toNat - 48)) r := by unfold digVal; rw [List.foldl_cons]
def isDig (c : UInt8) : Bool := decide (48 ≤ c.toNat ∧ c.toNat ≤ 57)

theorem digVal_append (a b : List UInt8) (acc : Nat) : digVal acc (a ++ b) = digVal (digVal acc a) b := List.foldl_append

theorem dig_toNat (d : Nat) (h : d < 10) : (UInt8.ofNat (48 + d)).toNat = 48 + d := by
  simp only [UInt8.toNat_ofNat', Nat.reducePow]; omega

theorem dig_isDig (d : Nat) (h : d < 10) : isDig (UInt8.ofNat (48 + d)) = true := by
  unfold isDig; rw [dig_toNat d h]; simp; omega

theorem decDigits_small {u : Nat} (h : u < 10) : decDigits u = [UInt8.ofNat (48 + u)] := by rw [decDigits, dif_pos h]
theorem decDigits_big {u : Nat} (h : ¬ u < 10) : decDigits u = decDigits (u / 10) ++ [UInt8.ofNat (48 + u % 10)] := by rw [decDigits, dif_neg h]

theorem decDigits_isDig (u : Nat) : ∀ c ∈ decDigits u, isDig c = true := by
  induction u using Nat.strongRecOn with
  | ind u ih =>
    by_cases h : u < 10
    · rw [decDigits_small h]; intro c hc; simp only [List.mem_singleton] at hc; subst hc; exact dig_isDig u h
    · rw [decDigits_big h]; intro c hc
      rcases List.mem_append.1 hc with hc | hc
      · exact ih (u / 10) (by omega) c hc
      · simp only [List.mem_singleton] at hc; subst hc; exact dig_isDig _ (by omega)

theorem digVal_decDigits (u : Nat) : digVal 0 (decDigits u) = u := by
  induction u using Nat.strongRecOn with
  | ind u ih =>
    by_cases h : u < 10
    · rw [decDigits_small h]; simp only [digVal_cons, digVal_nil, dig_toNat u h]; omega
    · rw [decDigits_big h, digVal_append, ih (u / 10) (by omega)]
      simp only [digVal_cons, digVal_nil, dig_toNat (u % 10) (by omega)]; omega

theorem decDigits_ne_nil (u : Nat) : decDigits u ≠ [] := by
  by_cases h : u < 10
  · rw [decDigits_small h]; simp
  · rw [decDigits_big h]; simp

/-- The first digit of what has more than one is not 0. -/
theorem decDigits_head (u : Nat) (h : ¬ u < 10) : ∃ c r, decDigits u = c :: r ∧ c.toNat ≠ 48 ∧ r ≠ [] := by
  induction u using Nat.strongRecOn with
  | ind u ih =>
    rw [decDigits_big h]
    by_cases h2 : u / 10 < 10
    · rw [decDigits_small h2]
      exact ⟨_, _, rfl, by rw [dig_toNat _ h2]; omega, by simp⟩
    · obtain ⟨c, r, e, h1, _⟩ := ih (u / 10) (by omega) h2
      rw [e]
      exact ⟨c, r ++ _, rfl, h1, by simp⟩

theorem digVal_mono (l : List UInt8) : ∀ acc, acc ≤ digVal acc l := by
  induction l with
  | nil => intro acc; exact Nat.le_refl _
  | cons c r ih => intro acc; exact Nat.le_trans (by omega) (ih (10 * acc + (c.toNat - 48)))

theorem digVal_lt (l : List UInt8) : ∀ acc, (∀ c ∈ l, isDig c = true) → digVal acc l < (acc + 1) * 10 ^ l.length := by
  induction l with
  | nil => intro acc _; simp [digVal_nil]
  | cons c r ih =>
    intro acc h
    have h1 := ih (10 * acc + (c.toNat - 48)) (fun x hx => h x (List.mem_cons_of_mem _ hx))
    have hc : isDig c = true := h c List.mem_cons_self
    unfold isDig at hc
    have hc' := of_decide_eq_true hc
    simp only [digVal_cons, digVal_nil, List.length_cons, Nat.pow_succ]
    refine Nat.lt_of_lt_of_le h1 ?_
    rw [show (acc + 1) * (10 ^ r.length * 10) = (10 * (acc + 1)) * 10 ^ r.length by rw [Nat.mul_comm (10 ^ r.length) 10, ← Nat.mul_assoc, Nat.mul_comm (acc + 1) 10]]
    exact Nat.mul_le_mul_right _ (by omega)

/-- A list of digits that does not begin with 0 (or is '0') is the numeral of its value. -/
theorem decDigits_digVal_pos (r : List UInt8) : ∀ acc, 1 ≤ acc → (∀ c ∈ r, isDig c = true) → decDigits (digVal acc r) = decDigits acc ++ r := by
  induction r with
  | nil => intro acc _ _; simp [digVal_nil]
  | cons c r ih =>
    intro acc h1 h
    have hc : isDig c = true := h c List.mem_cons_self
    unfold isDig at hc
    have hc' := of_decide_eq_true hc
    simp only [digVal_cons, digVal_nil]
    rw [ih (10 * acc + (c.toNat - 48)) (by omega) (fun x hx => h x (List.mem_cons_of_mem _ hx)), decDigits_big (by omega)]
    have e1 : (10 * acc + (c.toNat - 48)) / 10 = acc := by omega
    have e2 : (10 * acc + (c.toNat - 48)) % 10 = c.toNat - 48 := by omega
    have e3 : UInt8.ofNat (48 + (c.toNat - 48)) = c := by
      rw [show 48 + (c.toNat - 48) = c.toNat by omega]; exact UInt8.ofNat_toNat
    rw [e1, e2, e3, List.append_assoc]; rfl

theorem decDigits_digVal (c : UInt8) (r : List UInt8) (h : ∀ x ∈ c :: r, isDig x = true) (h0 : c.toNat = 48 → r = []) : decDigits (digVal 0 (c :: r)) = c :: r := by
  have hc : isDig c = true := h c List.mem_cons_self
  unfold isDig at hc
  have hc' := of_decide_eq_true hc
  simp only [digVal_cons, digVal_nil]
  have e3 : UInt8.ofNat (48 + (c.toNat - 48)) = c := by
    rw [show 48 + (c.toNat - 48) = c.toNat by omega]; exact UInt8.ofNat_toNat
  by_cases hz : c.toNat = 48
  · rw [h0 hz]; simp only [digVal_cons, digVal_nil]
    rw [decDigits_small (by omega), show 10 * 0 + (c.toNat - 48) = c.toNat - 48 by omega, e3]
  · rw [decDigits_digVal_pos r _ (by omega) (fun x hx => h x (List.mem_cons_of_mem _ hx)), decDigits_small (by omega), show 10 * 0 + (c.toNat - 48) = c.toNat - 48 by omega, e3]; rfl

/-! ### strconv's reading of a numeral -/
theorem parseUintM_digs (M : Nat) (hM : M < 18446744073709551616) (l : List UInt8) : ∀ acc, (∀ c ∈ l, isDig c = true) → digVal acc l ≤ M → parseUintM M acc l = .ok (digVal acc l) := by
  induction l with
  | nil => intro acc _ _; rfl
  | cons c r ih =>
    intro acc h hv
    have hc : isDig c = true := h c List.mem_cons_self
    unfold isDig at hc
    have hc' := of_decide_eq_true hc
    have hm := digVal_mono r (10 * acc + (c.toNat - 48))
    simp only [digVal_cons, digVal_nil] at hv
    unfold parseUintM
    rw [if_pos hc', if_neg (by omega), if_neg (by omega)]
    rw [show acc * 10 + (c.toNat - 48) = 10 * acc + (c.toNat - 48) by omega]
    exact ih _ (fun x hx => h x (List.mem_cons_of_mem _ hx)) hv

theorem parseUintB_dec (u : Nat) (hu : u < 18446744073709551616) : parseUintB 64 (decDigits u) = .ok u := by
  unfold parseUintB
  rw [if_neg (decDigits_ne_nil u), parseUintM_digs _ (by decide) _ 0 (decDigits_isDig u) (by rw [digVal_decDigits]; simp only [Nat.reducePow, Nat.reduceSub]; omega), digVal_decDigits]

theorem parse_itoa (v : Int) (h0 : -9223372036854775808 ≤ v) (h1 : v ≤ 9223372036854775807) : parseIntB 64 (itoa v) = .ok v := by
  by_cases hneg : v < 0
  · obtain ⟨u, rfl⟩ : ∃ u : Nat, v = -(u : Int) := ⟨v.natAbs, by omega⟩
    rw [itoa_neg u (by omega), parseIntB_minus, parseUintB_dec u (by omega)]
    simp only [signedC, Nat.reducePow, Nat.reduceSub]
    rw [if_neg (by omega)]
  · obtain ⟨u, rfl⟩ : ∃ u : Nat, v = (u : Int) := ⟨v.toNat, by omega⟩
    rw [itoa_nonneg]
    have hd := decDigits_isDig u
    cases hl : decDigits u with
    | nil => exact absurd hl (decDigits_ne_nil u)
    | cons c r =>
      rw [hl] at hd
      have hc : isDig c = true := hd c List.mem_cons_self
      unfold isDig at hc
      have hc' := of_decide_eq_true hc
      rw [parseIntB_plain 64 c r (by omega) (by omega), ← hl, parseUintB_dec u (by omega)]
      simp only [signlessC, Nat.reducePow, Nat.reduceSub]
      rw [if_neg (by omega)]

theorem itoa_inj {a b : Int} (ha0 : -9223372036854775808 ≤ a) (ha1 : a ≤ 9223372036854775807) (hb0 : -9223372036854775808 ≤ b) (hb1 : b ≤ 9223372036854775807) (h : itoa a = itoa b) : a = b := by
  have h1 := parse_itoa a ha0 ha1
  rw [h, parse_itoa b hb0 hb1] at h1
  injection h1 with h1; exact h1.symm

theorem itoa_ne_nil (v : Int) : itoa v ≠ [] := by
  unfold itoa; split
  · simp
  · exact decDigits_ne_nil _

/-- The number whose numeral some bytes are. -/
def numOf (l : List UInt8) : Option Int :=
  match parseIntB 64 l with
  | .ok v => if itoa v = l then some v else none
  | _ => none

theorem numOf_itoa {v : Int} (h0 : -9223372036854775808 ≤ v) (h1 : v ≤ 9223372036854775807) : numOf (itoa v) = some v := by
  unfold numOf; rw [parse_itoa v h0 h1]; simp
theorem numOf_some {l : List UInt8} {v : Int} (h : numOf l = some v) : l = itoa v ∧ -9223372036854775808 ≤ v ∧ v ≤ 9223372036854775807 := by
  unfold numOf at h
  split at h
  · rename_i x hx
    split at h
    · rename_i e
      injection h with h; subst h
      have hb := parseIntB_bounds hx
      simp only [Nat.reducePow, Nat.reduceSub] at hb
      exact ⟨e.symm, by omega, by omega⟩
    · cases h
  · cases h
theorem numOf_none {l : List UInt8} (h : numOf l = none) (v : Int) (h0 : -9223372036854775808 ≤ v) (h1 : v ≤ 9223372036854775807) : l ≠ itoa v := by
  intro e; subst e; rw [numOf_itoa h0 h1] at h; cases h
theorem numOf_nil : numOf [] = none := rfl

/-- What TakeNumber answers: a number and an error's number. -/
def takeV (l : List UInt8) : Int := (numOf l).getD 0
def takeE (l : List UInt8) : Int := if l = [] then 3 else if (numOf l).isSome then 0 else 4
theorem takeV_range (l : List UInt8) : -9223372036854775808 ≤ takeV l ∧ takeV l ≤ 9223372036854775807 := by
  unfold takeV
  cases h : numOf l with
  | none => simp
  | some v => simpa using (numOf_some h).2
theorem takeE_range (l : List UInt8) : 0 ≤ takeE l ∧ takeE l ≤ 4 := by
  unfold takeE; split
  · omega
  · split <;> omega
theorem take_itoa {v : Int} (h0 : -9223372036854775808 ≤ v) (h1 : v ≤ 9223372036854775807) : takeV (itoa v) = v ∧ takeE (itoa v) = 0 := by
  unfold takeV takeE; rw [numOf_itoa h0 h1, if_neg (itoa_ne_nil v)]; simp
theorem takeE_zero {l : List UInt8} : takeE l = 0 ↔ l = itoa (takeV l) ∧ l ≠ [] ∧ numOf l = some (takeV l) := by
  unfold takeE takeV
  by_cases hn : l = []
  · simp [hn]
  · rw [if_neg hn]
    cases h : numOf l with
    | none => simp
    | some v => simpa using ⟨(numOf_some h).1, hn⟩

/-! ### the reference's reading: sign, digits, no zero ahead, at most 19 digits, within the bounds -/
/-- What stands behind a sign is a numeral: not empty, at most 19 digits, no zero ahead (of a negative one: none at all). -/
def plainDigits (minus : Bool) (d : List UInt8) : Bool :=
  decide (d ≠ []) && decide (d.length ≤ 19) && !(decide (d.head?.map (·.toNat) = some 48) && (decide (1 < d.length) || minus)) && d.all isDig

theorem nDigits_le19 (u : Nat) (h : u < 10000000000000000000) : nDigits u ≤ 19 := by
  rcases Nat.lt_or_ge 19 (nDigits u) with h1 | h1
  · exfalso
    have h2 : ∀ k u, u < 10 ^ k → 1 ≤ k → nDigits u ≤ k := by
      intro k
      induction k with
      | zero => intro u _ hk; omega
      | succ k ih =>
        intro u hu _
        by_cases hs : u < 10
        · rw [nDigits_small hs]; omega
        · rw [nDigits_big hs]
          rcases Nat.eq_zero_or_pos k with rfl | hk
          · simp at hu; omega
          · have := ih (u / 10) (by rw [Nat.pow_succ] at hu; omega) hk; omega
    have := h2 19 u (by simpa using h) (by decide)
    omega
  · exact h1

/-- Digits behind no sign. -/
theorem numOf_plus {d : List UInt8} (hp : plainDigits false d = true) (hv : digVal 0 d < 9223372036854775808) : numOf d = some (digVal 0 d) := by
  unfold plainDigits at hp
  simp only [Bool.and_eq_true, Bool.not_eq_true', decide_eq_true_eq, Bool.or_false] at hp
  obtain ⟨⟨⟨h1, h2⟩, h3⟩, h4⟩ := hp
  cases d with
  | nil => exact absurd rfl h1
  | cons c r =>
    have e : decDigits (digVal 0 (c :: r)) = c :: r := decDigits_digVal c r (List.all_eq_true.1 h4) (fun hz => by
      simp [hz] at h3; exact h3)
    have := numOf_itoa (v := (digVal 0 (c :: r) : Nat)) (by omega) (by omega)
    rwa [itoa_nonneg, e] at this
theorem numOf_minus {d : List UInt8} (hp : plainDigits true d = true) (hv : digVal 0 d ≤ 9223372036854775808) : numOf (45 :: d) = some (-(digVal 0 d : Int)) := by
  unfold plainDigits at hp
  simp only [Bool.and_eq_true, Bool.not_eq_true', decide_eq_true_eq, Bool.or_true, Bool.and_true, decide_eq_false_iff_not] at hp
  obtain ⟨⟨⟨h1, h2⟩, h3⟩, h4⟩ := hp
  cases d with
  | nil => exact absurd rfl h1
  | cons c r =>
    have hc : isDig c = true := List.all_eq_true.1 h4 c List.mem_cons_self
    unfold isDig at hc
    have hc' := of_decide_eq_true hc
    have hz : c.toNat ≠ 48 := by simpa using h3
    have e : decDigits (digVal 0 (c :: r)) = c :: r := decDigits_digVal c r (List.all_eq_true.1 h4) (fun h => absurd h hz)
    have hpos : 1 ≤ digVal 0 (c :: r) := by
      have := digVal_mono r (10 * 0 + (c.toNat - 48))
      simp only [digVal_cons, digVal_nil]; omega
    have := numOf_itoa (v := -((digVal 0 (c :: r) : Nat) : Int)) (by omega) (by omega)
    rwa [itoa_neg _ hpos, e] at this
/-- And no others: what is a number's numeral has that form. -/
theorem plain_of_plus {d : List UInt8} {v : Int} (h : numOf d = some v) (h45 : d.head?.map (·.toNat) ≠ some 45) : plainDigits false d = true ∧ digVal 0 d < 9223372036854775808 := by
  obtain ⟨rfl, h0, h1⟩ := numOf_some h
  by_cases hneg : v < 0
  · obtain ⟨u, rfl⟩ : ∃ u : Nat, v = -(u : Int) := ⟨v.natAbs, by omega⟩
    rw [itoa_neg u (by omega)] at h45; exact absurd rfl h45
  · obtain ⟨u, rfl⟩ : ∃ u : Nat, v = (u : Int) := ⟨v.toNat, by omega⟩
    rw [itoa_nonneg] at *
    rw [digVal_decDigits]
    refine ⟨?_, by omega⟩
    unfold plainDigits
    simp only [Bool.and_eq_true, Bool.not_eq_true', decide_eq_true_eq, Bool.or_false]
    refine ⟨⟨⟨decDigits_ne_nil u, by rw [decDigits_length]; exact nDigits_le19 u (by omega)⟩, ?_⟩, List.all_eq_true.2 (decDigits_isDig u)⟩
    by_cases hu : u < 10
    · rw [decDigits_small hu]; simp
    · obtain ⟨c, r, e, hc, _⟩ := decDigits_head u hu
      rw [e]; simp [hc]
theorem plain_of_minus {d : List UInt8} {v : Int} (h : numOf (45 :: d) = some v) : plainDigits true d = true ∧ digVal 0 d ≤ 9223372036854775808 := by
  obtain ⟨e, h0, h1⟩ := numOf_some h
  by_cases hneg : v < 0
  · obtain ⟨u, rfl⟩ : ∃ u : Nat, v = -(u : Int) := ⟨v.natAbs, by omega⟩
    rw [itoa_neg u (by omega)] at e
    injection e with _ e; subst e
    rw [digVal_decDigits]
    refine ⟨?_, by omega⟩
    unfold plainDigits
    simp only [Bool.and_eq_true, Bool.not_eq_true', decide_eq_true_eq, Bool.or_true, Bool.and_true, decide_eq_false_iff_not]
    refine ⟨⟨⟨decDigits_ne_nil u, by rw [decDigits_length]; exact nDigits_le19 u (by omega)⟩, ?_⟩, List.all_eq_true.2 (decDigits_isDig u)⟩
    by_cases hu : u < 10
    · rw [decDigits_small hu]; simp only [List.head?_cons, Option.map_some, Option.some.injEq]; rw [dig_toNat u hu]; omega
    · obtain ⟨c, r, e, hc, _⟩ := decDigits_head u hu
      rw [e]; simp [hc]
  · obtain ⟨u, rfl⟩ : ∃ u : Nat, v = (u : Int) := ⟨v.toNat, by omega⟩
    rw [itoa_nonneg] at e
    have hd := decDigits_isDig u
    rw [← e] at hd
    exact absurd (hd 45 List.mem_cons_self) (by decide)
end Go.Proofs.YtdekdejnoccajaaDoor
