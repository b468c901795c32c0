/-
  The walk of PsiChains: the law's function answers true.
-/
import Derived.Test.YtdekdejnoccajaaDoorPsiZero
import Derived.Test.YtdekdejnoccajaaDoorPsiFour
set_option linter.unusedVariables false
set_option linter.unusedSimpArgs false
namespace Go.Proofs.YtdekdejnoccajaaDoor
open Go.RowKit Go.Lib


set_option maxHeartbeats 4000000 in
set_option maxRecDepth 100000 in
theorem psiChains_1 (n k what N K W : Int) (w : World) (hw : Ready w) (hN : wrap64 ((IntKind.u64.wrap n).tmod 30) = N) (hK : wrap64 ((IntKind.u64.wrap k).tmod 30) = K) (hW : (IntKind.u64.wrap what).tmod 5 = 1) (n0 : 0 ≤ N) (n1 : N < 30) (k0 : 0 ≤ K) (k1 : K < 30) :
    Calls Tryd.prog 3 #[.int .i64 n, .int .i64 k, .int .i64 what] w fun e w' => e = .returned (.bool true) ∧ Below w.heap.size w w' := by
  have n2 : -9223372036854775808 ≤ N := by omega
  have n3 : N ≤ 9223372036854775807 := by omega
  have k2 : -9223372036854775808 ≤ K := by omega
  have k3 : K ≤ 9223372036854775807 := by omega
  have lN := itoa_length_le N n2 n3
  have lK := itoa_length_le K k2 k3
  have lS : (str (chainTxt N K)).size ≤ 43 := by rw [str_size]; unfold chainTxt; simp; omega
  clear lN lK
  obtain ⟨SS, hSS⟩ : ∃ SS, str (chainTxt N K) ++ (⟨#[32]⟩ : ByteArray) = SS := ⟨_, rfl⟩
  have HA : Hid (isAux (lawEx SS) = false) := Lib.hid (aux_of_not (lawEx_get SS) (by rw [← hSS]; exact (by rw [show bs (str (chainTxt N K) ++ (⟨#[32]⟩ : ByteArray)) = chainTxt N K ++ 32 :: [] by simp [bs, str]]; exact good_behind N K [])))
  have HL : Hid ((getV (lawEx SS) gitChain).size ≤ 1000) := Lib.hid (by
    rw [lawEx_get, ← hSS]
    have := lS
    rw [str_size] at this
    simp [ByteArray.size, str, ByteArray.data_append]
    omega)
  · go_enter Tryd.func3, Tryd.ntmps3
    go_wp2_with fail
    refine (refChain_any N K _ n2 n3 k2 k3).mono ?_
    rintro e w1 ⟨rfl, hb1⟩
    have HST := Lib.hid (lawSt w w1 SS (hw.below hb1) hb1)
    have hst := lawStore w1 SS
    go_wp2_with fail
    clear hst
    have hl1 : ∀ W : World, St (w1.heap.size + 1) (lawCells w1) (lawEx SS) w W → RowC W (w1.heap.size + 1) := fun _ h => h.row
    have hl2 : ∀ W : World, St (w1.heap.size + 1) (lawCells w1) (lawEx SS) w W → cellsAt W (w1.heap.size + 1) = lawCells w1 := fun _ h => h.cells
    generalize lawEx SS = ex at *
    generalize lawCells w1 = cs at *
    generalize w1.heap.size + 1 = B at *
    generalize (w1.alloc (lawRow SS)).alloc (Obj.cells cs 31) = W0 at *
    have hs0 := HST.out
    clear HST
    refine wp_region_text (St B cs ex w) (by kernel_rfl) (by kernel_rfl) hs0.drew ?_
    clear hs0
    repeat (first
      | (refine inText_no (by rfl) ?_; simp only [Act.put, List.setIfInBounds_toArray, List.set_cons_zero, List.set_cons_succ])
      | (refine inText_load (by rfl) (by rfl) ?_; simp only [Act.put, List.setIfInBounds_toArray, List.set_cons_zero, List.set_cons_succ])
      | (refine inText_go [] (.bool true) (by rfl) (by kernel_rfl) (by rfl) (fun V hV => awake_st V hV) ?_; simp only [Act.put, List.setIfInBounds_toArray, List.set_cons_zero, List.set_cons_succ])
      | (refine inText_go [.agg cs] _ (by rfl) (by kernel_rfl) (by rfl) (fun V hV => aux_st _ HA.out HL.out V hV) ?_; simp only [Act.put, List.setIfInBounds_toArray, List.set_cons_zero, List.set_cons_succ])
      | (refine inText_go [.agg cs] _ (by rfl) (by kernel_rfl) (by rfl) (fun V hV => auxRef_st _ HA.out HL.out V hV) ?_; simp only [Act.put, List.setIfInBounds_toArray, List.set_cons_zero, List.set_cons_succ])
      | (refine inText_bin (.bool true) (by rfl) (fun V hV => ?_) ?_; (focus (go_simp <;> omega)); simp only [Act.put, List.setIfInBounds_toArray, List.set_cons_zero, List.set_cons_succ])
      | (refine inText_bin (.bool false) (by rfl) (fun V hV => ?_) ?_; (focus (go_simp <;> omega)); simp only [Act.put, List.setIfInBounds_toArray, List.set_cons_zero, List.set_cons_succ])
      | (refine inText_val ?_ (by rfl) (fun V hV => ?_) ?_; rotate_left; (focus (go_simp; with_reducible rfl)); simp only [Act.put, List.setIfInBounds_toArray, List.set_cons_zero, List.set_cons_succ]))
    intro V hV
    go_wp2_with fail
    go_ret
    exact ⟨rfl, hV.bel⟩

set_option maxHeartbeats 4000000 in
set_option maxRecDepth 100000 in
theorem psiChains_2 (n k what N K W : Int) (w : World) (hw : Ready w) (hN : wrap64 ((IntKind.u64.wrap n).tmod 30) = N) (hK : wrap64 ((IntKind.u64.wrap k).tmod 30) = K) (hW : (IntKind.u64.wrap what).tmod 5 = 2) (n0 : 0 ≤ N) (n1 : N < 30) (k0 : 0 ≤ K) (k1 : K < 30) :
    Calls Tryd.prog 3 #[.int .i64 n, .int .i64 k, .int .i64 what] w fun e w' => e = .returned (.bool true) ∧ Below w.heap.size w w' := by
  have n2 : -9223372036854775808 ≤ N := by omega
  have n3 : N ≤ 9223372036854775807 := by omega
  have k2 : -9223372036854775808 ≤ K := by omega
  have k3 : K ≤ 9223372036854775807 := by omega
  have lN := itoa_length_le N n2 n3
  have lK := itoa_length_le K k2 k3
  have lS : (str (chainTxt N K)).size ≤ 43 := by rw [str_size]; unfold chainTxt; simp; omega
  clear lN lK
  obtain ⟨SS, hSS⟩ : ∃ SS, (⟨#[48]⟩ : ByteArray) ++ str (chainTxt N K) = SS := ⟨_, rfl⟩
  have HA : Hid (isAux (lawEx SS) = false) := Lib.hid (aux_of_not (lawEx_get SS) (by rw [← hSS]; exact (by rw [show bs ((⟨#[48]⟩ : ByteArray) ++ str (chainTxt N K)) = 48 :: chainTxt N K by simp [bs, str]]; exact good_ahead N K)))
  have HL : Hid ((getV (lawEx SS) gitChain).size ≤ 1000) := Lib.hid (by
    rw [lawEx_get, ← hSS]
    have := lS
    rw [str_size] at this
    simp [ByteArray.size, str, ByteArray.data_append]
    omega)
  · go_enter Tryd.func3, Tryd.ntmps3
    go_wp2_with fail
    refine (refChain_any N K _ n2 n3 k2 k3).mono ?_
    rintro e w1 ⟨rfl, hb1⟩
    have HST := Lib.hid (lawSt w w1 SS (hw.below hb1) hb1)
    have hst := lawStore w1 SS
    go_wp2_with fail
    clear hst
    have hl1 : ∀ W : World, St (w1.heap.size + 1) (lawCells w1) (lawEx SS) w W → RowC W (w1.heap.size + 1) := fun _ h => h.row
    have hl2 : ∀ W : World, St (w1.heap.size + 1) (lawCells w1) (lawEx SS) w W → cellsAt W (w1.heap.size + 1) = lawCells w1 := fun _ h => h.cells
    generalize lawEx SS = ex at *
    generalize lawCells w1 = cs at *
    generalize w1.heap.size + 1 = B at *
    generalize (w1.alloc (lawRow SS)).alloc (Obj.cells cs 31) = W0 at *
    have hs0 := HST.out
    clear HST
    refine wp_region_text (St B cs ex w) (by kernel_rfl) (by kernel_rfl) hs0.drew ?_
    clear hs0
    repeat (first
      | (refine inText_no (by rfl) ?_; simp only [Act.put, List.setIfInBounds_toArray, List.set_cons_zero, List.set_cons_succ])
      | (refine inText_load (by rfl) (by rfl) ?_; simp only [Act.put, List.setIfInBounds_toArray, List.set_cons_zero, List.set_cons_succ])
      | (refine inText_go [] (.bool true) (by rfl) (by kernel_rfl) (by rfl) (fun V hV => awake_st V hV) ?_; simp only [Act.put, List.setIfInBounds_toArray, List.set_cons_zero, List.set_cons_succ])
      | (refine inText_go [.agg cs] _ (by rfl) (by kernel_rfl) (by rfl) (fun V hV => aux_st _ HA.out HL.out V hV) ?_; simp only [Act.put, List.setIfInBounds_toArray, List.set_cons_zero, List.set_cons_succ])
      | (refine inText_go [.agg cs] _ (by rfl) (by kernel_rfl) (by rfl) (fun V hV => auxRef_st _ HA.out HL.out V hV) ?_; simp only [Act.put, List.setIfInBounds_toArray, List.set_cons_zero, List.set_cons_succ])
      | (refine inText_bin (.bool true) (by rfl) (fun V hV => ?_) ?_; (focus (go_simp <;> omega)); simp only [Act.put, List.setIfInBounds_toArray, List.set_cons_zero, List.set_cons_succ])
      | (refine inText_bin (.bool false) (by rfl) (fun V hV => ?_) ?_; (focus (go_simp <;> omega)); simp only [Act.put, List.setIfInBounds_toArray, List.set_cons_zero, List.set_cons_succ])
      | (refine inText_val ?_ (by rfl) (fun V hV => ?_) ?_; rotate_left; (focus (go_simp; with_reducible rfl)); simp only [Act.put, List.setIfInBounds_toArray, List.set_cons_zero, List.set_cons_succ]))
    intro V hV
    go_wp2_with fail
    go_ret
    exact ⟨rfl, hV.bel⟩

set_option maxHeartbeats 4000000 in
set_option maxRecDepth 100000 in
theorem psiChains_3 (n k what N K W : Int) (w : World) (hw : Ready w) (hN : wrap64 ((IntKind.u64.wrap n).tmod 30) = N) (hK : wrap64 ((IntKind.u64.wrap k).tmod 30) = K) (hW : (IntKind.u64.wrap what).tmod 5 = 3) (n0 : 0 ≤ N) (n1 : N < 30) (k0 : 0 ≤ K) (k1 : K < 30) :
    Calls Tryd.prog 3 #[.int .i64 n, .int .i64 k, .int .i64 what] w fun e w' => e = .returned (.bool true) ∧ Below w.heap.size w w' := by
  have n2 : -9223372036854775808 ≤ N := by omega
  have n3 : N ≤ 9223372036854775807 := by omega
  have k2 : -9223372036854775808 ≤ K := by omega
  have k3 : K ≤ 9223372036854775807 := by omega
  have lN := itoa_length_le N n2 n3
  have lK := itoa_length_le K k2 k3
  have lS : (str (chainTxt N K)).size ≤ 43 := by rw [str_size]; unfold chainTxt; simp; omega
  clear lN lK
  obtain ⟨SS, hSS⟩ : ∃ SS, str (chainTxt N K) ++ (⟨#[32, 49]⟩ : ByteArray) = SS := ⟨_, rfl⟩
  have HA : Hid (isAux (lawEx SS) = false) := Lib.hid (aux_of_not (lawEx_get SS) (by rw [← hSS]; exact (by rw [show bs (str (chainTxt N K) ++ (⟨#[32, 49]⟩ : ByteArray)) = chainTxt N K ++ 32 :: [49] by simp [bs, str]]; exact good_behind N K [49])))
  have HL : Hid ((getV (lawEx SS) gitChain).size ≤ 1000) := Lib.hid (by
    rw [lawEx_get, ← hSS]
    have := lS
    rw [str_size] at this
    simp [ByteArray.size, str, ByteArray.data_append]
    omega)
  · go_enter Tryd.func3, Tryd.ntmps3
    go_wp2_with fail
    refine (refChain_any N K _ n2 n3 k2 k3).mono ?_
    rintro e w1 ⟨rfl, hb1⟩
    go_wp2_with fail
    refine (refChain_any N K _ n2 n3 k2 k3).mono ?_
    rintro e w2 ⟨rfl, hb2⟩
    replace hb1 := below_call hb1 hb2
    clear hb2
    obtain ⟨w1, hww⟩ : ∃ x, x = w2 := ⟨_, rfl⟩
    subst hww
    have HST := Lib.hid (lawSt w w1 SS (hw.below hb1) hb1)
    have hst := lawStore w1 SS
    go_wp2_with fail
    clear hst
    have hl1 : ∀ W : World, St (w1.heap.size + 1) (lawCells w1) (lawEx SS) w W → RowC W (w1.heap.size + 1) := fun _ h => h.row
    have hl2 : ∀ W : World, St (w1.heap.size + 1) (lawCells w1) (lawEx SS) w W → cellsAt W (w1.heap.size + 1) = lawCells w1 := fun _ h => h.cells
    generalize lawEx SS = ex at *
    generalize lawCells w1 = cs at *
    generalize w1.heap.size + 1 = B at *
    generalize (w1.alloc (lawRow SS)).alloc (Obj.cells cs 31) = W0 at *
    have hs0 := HST.out
    clear HST
    refine wp_region_text (St B cs ex w) (by kernel_rfl) (by kernel_rfl) hs0.drew ?_
    clear hs0
    repeat (first
      | (refine inText_no (by rfl) ?_; simp only [Act.put, List.setIfInBounds_toArray, List.set_cons_zero, List.set_cons_succ])
      | (refine inText_load (by rfl) (by rfl) ?_; simp only [Act.put, List.setIfInBounds_toArray, List.set_cons_zero, List.set_cons_succ])
      | (refine inText_go [] (.bool true) (by rfl) (by kernel_rfl) (by rfl) (fun V hV => awake_st V hV) ?_; simp only [Act.put, List.setIfInBounds_toArray, List.set_cons_zero, List.set_cons_succ])
      | (refine inText_go [.agg cs] _ (by rfl) (by kernel_rfl) (by rfl) (fun V hV => aux_st _ HA.out HL.out V hV) ?_; simp only [Act.put, List.setIfInBounds_toArray, List.set_cons_zero, List.set_cons_succ])
      | (refine inText_go [.agg cs] _ (by rfl) (by kernel_rfl) (by rfl) (fun V hV => auxRef_st _ HA.out HL.out V hV) ?_; simp only [Act.put, List.setIfInBounds_toArray, List.set_cons_zero, List.set_cons_succ])
      | (refine inText_bin (.bool true) (by rfl) (fun V hV => ?_) ?_; (focus (go_simp <;> omega)); simp only [Act.put, List.setIfInBounds_toArray, List.set_cons_zero, List.set_cons_succ])
      | (refine inText_bin (.bool false) (by rfl) (fun V hV => ?_) ?_; (focus (go_simp <;> omega)); simp only [Act.put, List.setIfInBounds_toArray, List.set_cons_zero, List.set_cons_succ])
      | (refine inText_val ?_ (by rfl) (fun V hV => ?_) ?_; rotate_left; (focus (go_simp; with_reducible rfl)); simp only [Act.put, List.setIfInBounds_toArray, List.set_cons_zero, List.set_cons_succ]))
    intro V hV
    go_wp2_with fail
    go_ret
    exact ⟨rfl, hV.bel⟩

theorem psiChains_any (n k what : Int) (w : World) (hw : Ready w) :
    Calls Tryd.prog 3 #[.int .i64 n, .int .i64 k, .int .i64 what] w fun e w' => e = .returned (.bool true) ∧ Below w.heap.size w w' := by
  obtain ⟨N, hN⟩ : ∃ N, wrap64 ((IntKind.u64.wrap n).tmod 30) = N := ⟨_, rfl⟩
  obtain ⟨K, hK⟩ : ∃ K, wrap64 ((IntKind.u64.wrap k).tmod 30) = K := ⟨_, rfl⟩
  obtain ⟨W, hW⟩ : ∃ W, (IntKind.u64.wrap what).tmod 5 = W := ⟨_, rfl⟩
  have u0 : ∀ x, 0 ≤ IntKind.u64.wrap x ∧ IntKind.u64.wrap x ≤ 18446744073709551615 := fun x => by rw [IntKind.wrap_u64]; omega
  have bN : 0 ≤ N ∧ N < 30 := by
    have := u0 n
    rw [← hN, Int.tmod_eq_emod_of_nonneg (by omega), IntWalk.wrap64_in _ ⟨by omega, by omega⟩]; omega
  have bK : 0 ≤ K ∧ K < 30 := by
    have := u0 k
    rw [← hK, Int.tmod_eq_emod_of_nonneg (by omega), IntWalk.wrap64_in _ ⟨by omega, by omega⟩]; omega
  have bW : 0 ≤ W ∧ W < 5 := by
    have := u0 what
    rw [← hW, Int.tmod_eq_emod_of_nonneg (by omega)]; omega
  rcases (show W = 1 ∨ W = 2 ∨ W = 3 ∨ W = 0 ∨ W = 4 by omega) with rfl | rfl | rfl | rfl | rfl
  · exact psiChains_1 n k what N K 1 w hw hN hK hW bN.1 bN.2 bK.1 bK.2
  · exact psiChains_2 n k what N K 2 w hw hN hK hW bN.1 bN.2 bK.1 bK.2
  · exact psiChains_3 n k what N K 3 w hw hN hK hW bN.1 bN.2 bK.1 bK.2
  · exact psiChains_0 n k what N K 0 w hw hN hK hW bN.1 bN.2 bK.1 bK.2
  · exact psiChains_4 n k what N K 4 w hw hN hK hW bN.1 bN.2 bK.1 bK.2
end Go.Proofs.YtdekdejnoccajaaDoor
