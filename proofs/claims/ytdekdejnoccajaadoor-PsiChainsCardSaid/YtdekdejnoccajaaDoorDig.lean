/-
  The reference's digits, Number and Chain: decimal numerals.
-/
import Derived.Test.YtdekdejnoccajaaDoorBase
import Derived.Test.YtdekdejnoccajaaDoorNum
import Derived.Lib.ConvBytes
import Derived.Deep.RegionWith
set_option linter.unusedVariables false
set_option linter.unusedSimpArgs false
namespace Go.Proofs.YtdekdejnoccajaaDoor
open Go.RowKit Go.Lib

/-- A text of bytes. -/
def str (l : List UInt8) : ByteArray := ⟨l.toArray⟩
theorem str_toList (l : List UInt8) : (str l).toList = l := ByteArray.toList_mk l
theorem str_size (l : List UInt8) : (str l).size = l.length := by simp [str, ByteArray.size]
theorem str_append (a b : List UInt8) : str a ++ str b = str (a ++ b) := by
  unfold str; apply ByteArray.ext; simp

/-- One byte that lies in memory, as a text: in whatever world it lies. -/
theorem conv_one (W : World) (B : Nat) (x : Int) (l : List UInt8) (hl : l = [UInt8.ofNat x.toNat]) (hc : W.cell? ⟨B, 0, none⟩ = some (.int .u8 x)) :
    (convert 38 9 (.slice (some ⟨B, 0, none⟩) 1 1)).run Tryd.prog W = .ok (.string (str l)) W := by
  have h := run_convert_bytes_arg (P := Tryd.prog) W 38 5 Tryd.underlying38 Tryd.underlying5 B 0 1 1 [x] rfl (fun i hi => by
    obtain rfl : i = 0 := by omega
    simpa using hc) 9 Tryd.underlying9
  rw [h, hl]
  simp [strOfNums, str]

set_option maxRecDepth 100000 in
theorem digits_small (u : Nat) (w : World) (h : u < 10) :
    Calls Tryd.prog 31 #[.int .u64 u] w fun e w' => e = .returned (.string (str (decDigits u))) ∧ Below w.heap.size w w' := by
  have hcv := conv_one (w.alloc (Obj.cells #[Value.int IntKind.u8 (48 + ↑u)] 5)) w.heap.size (48 + ↑u) (decDigits u) (by rw [decDigits_small h]; congr) (by simp)
  go_enter Tryd.func31, Tryd.ntmps31
  go_wp2_with fail
  go_ret
  exact ⟨rfl, below_alloc (Below.refl _ _) _⟩

set_option maxHeartbeats 1000000 in
set_option maxRecDepth 100000 in
theorem digits_any (u : Nat) : ∀ (w : World) (x : Int), x = u → u < 18446744073709551616 →
    Calls Tryd.prog 31 #[.int .u64 x] w fun e w' => e = .returned (.string (str (decDigits u))) ∧ Below w.heap.size w w' := by
  induction u using Nat.strongRecOn with
  | ind u ih =>
    intro w x hx hu
    subst hx
    by_cases h : u < 10
    · exact digits_small u w h
    · have hlen : (decDigits (u / 10)).length ≤ 20 := by rw [decDigits_length]; exact nDigits_le20 _ (by omega)
      have ih' := ih (u / 10) (by omega)
      clear ih
      have IH := Lib.hid ih'
      clear ih'
      obtain ⟨dl, hdl⟩ : ∃ dl, dl = [UInt8.ofNat (48 + u % 10)] := ⟨_, rfl⟩
      have hcv : ∀ (W : World) (B : Nat), W.cell? ⟨B, 0, none⟩ = some (.int .u8 (48 + (u : Int) % 10)) → (convert 38 9 (.slice (some ⟨B, 0, none⟩) 1 1)).run Tryd.prog W = .ok (.string (str dl)) W := fun W B hc => conv_one W B _ _ (by rw [hdl]; congr) hc
      have HD := Lib.hid hdl
      clear hdl
      have a1 : ((u : Int) / 10) = ((u / 10 : Nat) : Int) := by omega
      have a2 : u / 10 < 18446744073709551616 := by omega
      have IH' := fun W => IH.out W ((u : Int) / 10) a1 a2
      have IH2 := Lib.hid IH'
      clear IH' IH
      have e1 : IntKind.u64.wrap ((u : Int) / 10) = (u : Int) / 10 := IntWalk.u64_in _ (by omega)
      have e2 : (u : Int).tmod 10 = (u : Int) % 10 := Int.tmod_eq_emod_of_nonneg (by omega)
      have e3 : IntKind.u64.wrap (48 + (u : Int) % 10) = 48 + (u : Int) % 10 := IntWalk.u64_in _ (by omega)
      have e4 : IntKind.u8.wrap (48 + (u : Int) % 10) = 48 + (u : Int) % 10 := IntWalk.u8_in _ (by omega)
      have e5 : (str (decDigits (u / 10))).size + (str dl).size ≤ 9223372036854775807 := by rw [str_size, str_size, HD.out]; simp; omega
      have e6 : u / 10 < 18446744073709551616 := by omega
      clear a1 a2
      go_enter Tryd.func31, Tryd.ntmps31
      go_wp2_with fail
      go_region_with (go_at_call 31; refine (IH2.out _).mono ?_; rintro e w1 ⟨rfl, hb1⟩; obtain ⟨hc1, hf1⟩ := bcell hb1)
      all_goals go_wp2
      all_goals go_ret
      all_goals refine ⟨ret_eq (congrArg Value.string ?_), ?_⟩
      all_goals first | (show str (decDigits (u / 10)) ++ str dl = str (decDigits u); rw [str_append, HD.out, ← decDigits_big h]) | skip
      all_goals repeat (first | exact Below.refl _ _ | apply below_alloc | apply below_drewS | refine below_call ?_ hb1)

set_option maxRecDepth 100000 in
/-- Number. -/
theorem refNumber_any (v : Int) (w : World) (h0 : -9223372036854775808 ≤ v) (h1 : v ≤ 9223372036854775807) :
    Calls Tryd.prog 17 #[.int .i64 v] w fun e w' => e = .returned (.string (str (itoa v))) ∧ Below w.heap.size w w' := by
  by_cases hneg : v < 0
  · obtain ⟨u, rfl⟩ : ∃ u : Nat, v = -(u : Int) := ⟨v.natAbs, by omega⟩
    have hlen : (decDigits u).length ≤ 20 := by rw [decDigits_length]; exact nDigits_le20 _ (by omega)
    have hsz : 1 + (str (decDigits u)).size ≤ 9223372036854775807 := by rw [str_size]; omega
    go_enter Tryd.func17, Tryd.ntmps17
    go_wp2_with fail
    refine (digits_any u _ _ ?_ (by omega)).mono ?_
    · omega
    rintro e w1 ⟨rfl, hb1⟩
    go_wp2_with fail
    go_ret
    exact ⟨ret_eq (congrArg Value.string (by rw [itoa_neg u (by omega)]; exact str_append [45] (decDigits u))), hb1⟩
  · obtain ⟨u, rfl⟩ : ∃ u : Nat, v = (u : Int) := ⟨v.toNat, by omega⟩
    go_enter Tryd.func17, Tryd.ntmps17
    go_wp2_with fail
    refine (digits_any u _ _ ?_ (by omega)).mono ?_
    · rfl
    rintro e w1 ⟨rfl, hb1⟩
    go_wp2_with fail
    go_ret
    exact ⟨by rw [itoa_nonneg]; rfl, hb1⟩

/-- What 'git.chain' says of the k-th of n. -/
def chainTxt (n k : Int) : List UInt8 := itoa n ++ 32 :: itoa k
set_option maxRecDepth 100000 in
theorem refChain_any (n k : Int) (w : World) (h0 : -9223372036854775808 ≤ n) (h1 : n ≤ 9223372036854775807) (k0 : -9223372036854775808 ≤ k) (k1 : k ≤ 9223372036854775807) :
    Calls Tryd.prog 5 #[.int .i64 n, .int .i64 k] w fun e w' => e = .returned (.string (str (chainTxt n k))) ∧ Below w.heap.size w w' := by
  have l1 := itoa_length_le n h0 h1
  have l2 := itoa_length_le k k0 k1
  have s1 : (str (itoa n)).size + 1 ≤ 9223372036854775807 := by rw [str_size]; omega
  have s2 : (str (itoa n) ++ (⟨#[32]⟩ : ByteArray)).size + (str (itoa k)).size ≤ 9223372036854775807 := by
    rw [show str (itoa n) ++ (⟨#[32]⟩ : ByteArray) = str (itoa n ++ [32]) from str_append _ _, str_size, str_size]; simp; omega
  go_enter Tryd.func5, Tryd.ntmps5
  go_wp2_with fail
  refine (refNumber_any n _ h0 h1).mono ?_
  rintro e w1 ⟨rfl, hb1⟩
  go_wp2_with fail
  refine (refNumber_any k _ k0 k1).mono ?_
  rintro e w2 ⟨rfl, hb2⟩
  go_wp2_with fail
  go_ret
  refine ⟨ret_eq (congrArg Value.string ?_), below_call hb1 hb2⟩
  show str (itoa n) ++ str [32] ++ str (itoa k) = _
  rw [str_append, str_append]
  simp [chainTxt]
end Go.Proofs.YtdekdejnoccajaaDoor
