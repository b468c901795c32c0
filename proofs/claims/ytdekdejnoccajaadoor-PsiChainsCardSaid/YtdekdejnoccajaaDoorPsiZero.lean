/-
  The walk of PsiChains where what % 5 = 0.
-/
import Derived.Test.YtdekdejnoccajaaDoorPsiBase
set_option linter.unusedVariables false
set_option linter.unusedSimpArgs false
namespace Go.Proofs.YtdekdejnoccajaaDoor
open Go.RowKit Go.Lib

set_option maxHeartbeats 4000000 in
set_option maxRecDepth 100000 in
theorem psiChains_0 (n k what N K W : Int) (w : World) (hw : Ready w) (hN : wrap64 ((IntKind.u64.wrap n).tmod 30) = N) (hK : wrap64 ((IntKind.u64.wrap k).tmod 30) = K) (hW : (IntKind.u64.wrap what).tmod 5 = 0) (n0 : 0 ≤ N) (n1 : N < 30) (k0 : 0 ≤ K) (k1 : K < 30) :
    Calls Tryd.prog 3 #[.int .i64 n, .int .i64 k, .int .i64 what] w fun e w' => e = .returned (.bool true) ∧ Below w.heap.size w w' := by
  have n2 : -9223372036854775808 ≤ N := by omega
  have n3 : N ≤ 9223372036854775807 := by omega
  have k2 : -9223372036854775808 ≤ K := by omega
  have k3 : K ≤ 9223372036854775807 := by omega
  have lN := itoa_length_le N n2 n3
  have lK := itoa_length_le K k2 k3
  have lS : (str (chainTxt N K)).size ≤ 43 := by rw [str_size]; unfold chainTxt; simp; omega
  clear lN lK
  obtain ⟨SS, hSS⟩ : ∃ SS, str (chainTxt N K) = SS := ⟨_, rfl⟩
  have HX := aux_chain N K n0 n1 k0 k1 (lawEx_get (str (chainTxt N K)))
  have HL : Hid ((getV (lawEx SS) gitChain).size ≤ 1000) := Lib.hid (by rw [← hSS, lawEx_get]; omega)
  rw [hSS] at HX
  rcases (show N < 2 ∨ (2 ≤ N ∧ 15 < N) ∨ (2 ≤ N ∧ N ≤ 15 ∧ K < 1) ∨ (2 ≤ N ∧ N ≤ 15 ∧ 1 ≤ K ∧ K < N) ∨ (2 ≤ N ∧ N ≤ 15 ∧ 1 ≤ K ∧ N ≤ K) by omega) with h1 | ⟨h1, h2⟩ | ⟨h1, h2, h3⟩ | ⟨h1, h2, h3, h4⟩ | ⟨h1, h2, h3, h4⟩
  · have HA : Hid (isAux (lawEx SS) = false) := Lib.hid (HX.trans (decide_eq_false (by omega)))
    clear HX
    go_enter Tryd.func3, Tryd.ntmps3
    go_wp2_with fail
    refine (refChain_any N K _ n2 n3 k2 k3).mono ?_
    rintro e w1 ⟨rfl, hb1⟩
    have HST := Lib.hid (lawSt w w1 SS (hw.below hb1) hb1)
    have hst := lawStore w1 SS
    go_wp2_with fail
    clear hst
    have hl1 : ∀ W : World, St (w1.heap.size + 1) (lawCells w1) (lawEx SS) w W → RowC W (w1.heap.size + 1) := fun _ h => h.row
    have hl2 : ∀ W : World, St (w1.heap.size + 1) (lawCells w1) (lawEx SS) w W → cellsAt W (w1.heap.size + 1) = lawCells w1 := fun _ h => h.cells
    generalize lawEx SS = ex at *
    generalize lawCells w1 = cs at *
    generalize w1.heap.size + 1 = B at *
    generalize (w1.alloc (lawRow SS)).alloc (Obj.cells cs 31) = W0 at *
    have hs0 := HST.out
    clear HST
    refine wp_region_text (St B cs ex w) (by kernel_rfl) (by kernel_rfl) hs0.drew ?_
    clear hs0
    repeat (first
      | (refine inText_no (by rfl) ?_; simp only [Act.put, List.setIfInBounds_toArray, List.set_cons_zero, List.set_cons_succ])
      | (refine inText_load (by rfl) (by rfl) ?_; simp only [Act.put, List.setIfInBounds_toArray, List.set_cons_zero, List.set_cons_succ])
      | (refine inText_go [] (.bool true) (by rfl) (by kernel_rfl) (by rfl) (fun V hV => awake_st V hV) ?_; simp only [Act.put, List.setIfInBounds_toArray, List.set_cons_zero, List.set_cons_succ])
      | (refine inText_go [.agg cs] _ (by rfl) (by kernel_rfl) (by rfl) (fun V hV => aux_st _ HA.out HL.out V hV) ?_; simp only [Act.put, List.setIfInBounds_toArray, List.set_cons_zero, List.set_cons_succ])
      | (refine inText_go [.agg cs] _ (by rfl) (by kernel_rfl) (by rfl) (fun V hV => auxRef_st _ HA.out HL.out V hV) ?_; simp only [Act.put, List.setIfInBounds_toArray, List.set_cons_zero, List.set_cons_succ])
      | (refine inText_bin (.bool true) (by rfl) (fun V hV => ?_) ?_; (focus (go_simp <;> omega)); simp only [Act.put, List.setIfInBounds_toArray, List.set_cons_zero, List.set_cons_succ])
      | (refine inText_bin (.bool false) (by rfl) (fun V hV => ?_) ?_; (focus (go_simp <;> omega)); simp only [Act.put, List.setIfInBounds_toArray, List.set_cons_zero, List.set_cons_succ])
      | (refine inText_val ?_ (by rfl) (fun V hV => ?_) ?_; rotate_left; (focus (go_simp; with_reducible rfl)); simp only [Act.put, List.setIfInBounds_toArray, List.set_cons_zero, List.set_cons_succ]))
    intro V hV
    go_wp2_with fail
    go_ret
    exact ⟨rfl, hV.bel⟩
  · have HA : Hid (isAux (lawEx SS) = false) := Lib.hid (HX.trans (decide_eq_false (by omega)))
    clear HX
    go_enter Tryd.func3, Tryd.ntmps3
    go_wp2_with fail
    refine (refChain_any N K _ n2 n3 k2 k3).mono ?_
    rintro e w1 ⟨rfl, hb1⟩
    have HST := Lib.hid (lawSt w w1 SS (hw.below hb1) hb1)
    have hst := lawStore w1 SS
    go_wp2_with fail
    clear hst
    have hl1 : ∀ W : World, St (w1.heap.size + 1) (lawCells w1) (lawEx SS) w W → RowC W (w1.heap.size + 1) := fun _ h => h.row
    have hl2 : ∀ W : World, St (w1.heap.size + 1) (lawCells w1) (lawEx SS) w W → cellsAt W (w1.heap.size + 1) = lawCells w1 := fun _ h => h.cells
    generalize lawEx SS = ex at *
    generalize lawCells w1 = cs at *
    generalize w1.heap.size + 1 = B at *
    generalize (w1.alloc (lawRow SS)).alloc (Obj.cells cs 31) = W0 at *
    have hs0 := HST.out
    clear HST
    refine wp_region_text (St B cs ex w) (by kernel_rfl) (by kernel_rfl) hs0.drew ?_
    clear hs0
    repeat (first
      | (refine inText_no (by rfl) ?_; simp only [Act.put, List.setIfInBounds_toArray, List.set_cons_zero, List.set_cons_succ])
      | (refine inText_load (by rfl) (by rfl) ?_; simp only [Act.put, List.setIfInBounds_toArray, List.set_cons_zero, List.set_cons_succ])
      | (refine inText_go [] (.bool true) (by rfl) (by kernel_rfl) (by rfl) (fun V hV => awake_st V hV) ?_; simp only [Act.put, List.setIfInBounds_toArray, List.set_cons_zero, List.set_cons_succ])
      | (refine inText_go [.agg cs] _ (by rfl) (by kernel_rfl) (by rfl) (fun V hV => aux_st _ HA.out HL.out V hV) ?_; simp only [Act.put, List.setIfInBounds_toArray, List.set_cons_zero, List.set_cons_succ])
      | (refine inText_go [.agg cs] _ (by rfl) (by kernel_rfl) (by rfl) (fun V hV => auxRef_st _ HA.out HL.out V hV) ?_; simp only [Act.put, List.setIfInBounds_toArray, List.set_cons_zero, List.set_cons_succ])
      | (refine inText_bin (.bool true) (by rfl) (fun V hV => ?_) ?_; (focus (go_simp <;> omega)); simp only [Act.put, List.setIfInBounds_toArray, List.set_cons_zero, List.set_cons_succ])
      | (refine inText_bin (.bool false) (by rfl) (fun V hV => ?_) ?_; (focus (go_simp <;> omega)); simp only [Act.put, List.setIfInBounds_toArray, List.set_cons_zero, List.set_cons_succ])
      | (refine inText_val ?_ (by rfl) (fun V hV => ?_) ?_; rotate_left; (focus (go_simp; with_reducible rfl)); simp only [Act.put, List.setIfInBounds_toArray, List.set_cons_zero, List.set_cons_succ]))
    intro V hV
    go_wp2_with fail
    go_ret
    exact ⟨rfl, hV.bel⟩
  · have HA : Hid (isAux (lawEx SS) = false) := Lib.hid (HX.trans (decide_eq_false (by omega)))
    clear HX
    go_enter Tryd.func3, Tryd.ntmps3
    go_wp2_with fail
    refine (refChain_any N K _ n2 n3 k2 k3).mono ?_
    rintro e w1 ⟨rfl, hb1⟩
    have HST := Lib.hid (lawSt w w1 SS (hw.below hb1) hb1)
    have hst := lawStore w1 SS
    go_wp2_with fail
    clear hst
    have hl1 : ∀ W : World, St (w1.heap.size + 1) (lawCells w1) (lawEx SS) w W → RowC W (w1.heap.size + 1) := fun _ h => h.row
    have hl2 : ∀ W : World, St (w1.heap.size + 1) (lawCells w1) (lawEx SS) w W → cellsAt W (w1.heap.size + 1) = lawCells w1 := fun _ h => h.cells
    generalize lawEx SS = ex at *
    generalize lawCells w1 = cs at *
    generalize w1.heap.size + 1 = B at *
    generalize (w1.alloc (lawRow SS)).alloc (Obj.cells cs 31) = W0 at *
    have hs0 := HST.out
    clear HST
    refine wp_region_text (St B cs ex w) (by kernel_rfl) (by kernel_rfl) hs0.drew ?_
    clear hs0
    repeat (first
      | (refine inText_no (by rfl) ?_; simp only [Act.put, List.setIfInBounds_toArray, List.set_cons_zero, List.set_cons_succ])
      | (refine inText_load (by rfl) (by rfl) ?_; simp only [Act.put, List.setIfInBounds_toArray, List.set_cons_zero, List.set_cons_succ])
      | (refine inText_go [] (.bool true) (by rfl) (by kernel_rfl) (by rfl) (fun V hV => awake_st V hV) ?_; simp only [Act.put, List.setIfInBounds_toArray, List.set_cons_zero, List.set_cons_succ])
      | (refine inText_go [.agg cs] _ (by rfl) (by kernel_rfl) (by rfl) (fun V hV => aux_st _ HA.out HL.out V hV) ?_; simp only [Act.put, List.setIfInBounds_toArray, List.set_cons_zero, List.set_cons_succ])
      | (refine inText_go [.agg cs] _ (by rfl) (by kernel_rfl) (by rfl) (fun V hV => auxRef_st _ HA.out HL.out V hV) ?_; simp only [Act.put, List.setIfInBounds_toArray, List.set_cons_zero, List.set_cons_succ])
      | (refine inText_bin (.bool true) (by rfl) (fun V hV => ?_) ?_; (focus (go_simp <;> omega)); simp only [Act.put, List.setIfInBounds_toArray, List.set_cons_zero, List.set_cons_succ])
      | (refine inText_bin (.bool false) (by rfl) (fun V hV => ?_) ?_; (focus (go_simp <;> omega)); simp only [Act.put, List.setIfInBounds_toArray, List.set_cons_zero, List.set_cons_succ])
      | (refine inText_val ?_ (by rfl) (fun V hV => ?_) ?_; rotate_left; (focus (go_simp; with_reducible rfl)); simp only [Act.put, List.setIfInBounds_toArray, List.set_cons_zero, List.set_cons_succ]))
    intro V hV
    go_wp2_with fail
    go_ret
    exact ⟨rfl, hV.bel⟩
  · have HA : Hid (isAux (lawEx SS) = true) := Lib.hid (HX.trans (decide_eq_true ⟨h1, h2, h3, h4⟩))
    clear HX
    go_enter Tryd.func3, Tryd.ntmps3
    go_wp2_with fail
    refine (refChain_any N K _ n2 n3 k2 k3).mono ?_
    rintro e w1 ⟨rfl, hb1⟩
    have HST := Lib.hid (lawSt w w1 SS (hw.below hb1) hb1)
    have hst := lawStore w1 SS
    go_wp2_with fail
    clear hst
    have hl1 : ∀ W : World, St (w1.heap.size + 1) (lawCells w1) (lawEx SS) w W → RowC W (w1.heap.size + 1) := fun _ h => h.row
    have hl2 : ∀ W : World, St (w1.heap.size + 1) (lawCells w1) (lawEx SS) w W → cellsAt W (w1.heap.size + 1) = lawCells w1 := fun _ h => h.cells
    generalize lawEx SS = ex at *
    generalize lawCells w1 = cs at *
    generalize w1.heap.size + 1 = B at *
    generalize (w1.alloc (lawRow SS)).alloc (Obj.cells cs 31) = W0 at *
    have hs0 := HST.out
    clear HST
    refine wp_region_text (St B cs ex w) (by kernel_rfl) (by kernel_rfl) hs0.drew ?_
    clear hs0
    repeat (first
      | (refine inText_no (by rfl) ?_; simp only [Act.put, List.setIfInBounds_toArray, List.set_cons_zero, List.set_cons_succ])
      | (refine inText_load (by rfl) (by rfl) ?_; simp only [Act.put, List.setIfInBounds_toArray, List.set_cons_zero, List.set_cons_succ])
      | (refine inText_go [] (.bool true) (by rfl) (by kernel_rfl) (by rfl) (fun V hV => awake_st V hV) ?_; simp only [Act.put, List.setIfInBounds_toArray, List.set_cons_zero, List.set_cons_succ])
      | (refine inText_go [.agg cs] _ (by rfl) (by kernel_rfl) (by rfl) (fun V hV => aux_st _ HA.out HL.out V hV) ?_; simp only [Act.put, List.setIfInBounds_toArray, List.set_cons_zero, List.set_cons_succ])
      | (refine inText_go [.agg cs] _ (by rfl) (by kernel_rfl) (by rfl) (fun V hV => auxRef_st _ HA.out HL.out V hV) ?_; simp only [Act.put, List.setIfInBounds_toArray, List.set_cons_zero, List.set_cons_succ])
      | (refine inText_bin (.bool true) (by rfl) (fun V hV => ?_) ?_; (focus (go_simp <;> omega)); simp only [Act.put, List.setIfInBounds_toArray, List.set_cons_zero, List.set_cons_succ])
      | (refine inText_bin (.bool false) (by rfl) (fun V hV => ?_) ?_; (focus (go_simp <;> omega)); simp only [Act.put, List.setIfInBounds_toArray, List.set_cons_zero, List.set_cons_succ])
      | (refine inText_val ?_ (by rfl) (fun V hV => ?_) ?_; rotate_left; (focus (go_simp; with_reducible rfl)); simp only [Act.put, List.setIfInBounds_toArray, List.set_cons_zero, List.set_cons_succ]))
    intro V hV
    go_wp2_with fail
    go_ret
    exact ⟨rfl, hV.bel⟩
  · have HA : Hid (isAux (lawEx SS) = false) := Lib.hid (HX.trans (decide_eq_false (by omega)))
    clear HX
    go_enter Tryd.func3, Tryd.ntmps3
    go_wp2_with fail
    refine (refChain_any N K _ n2 n3 k2 k3).mono ?_
    rintro e w1 ⟨rfl, hb1⟩
    have HST := Lib.hid (lawSt w w1 SS (hw.below hb1) hb1)
    have hst := lawStore w1 SS
    go_wp2_with fail
    clear hst
    have hl1 : ∀ W : World, St (w1.heap.size + 1) (lawCells w1) (lawEx SS) w W → RowC W (w1.heap.size + 1) := fun _ h => h.row
    have hl2 : ∀ W : World, St (w1.heap.size + 1) (lawCells w1) (lawEx SS) w W → cellsAt W (w1.heap.size + 1) = lawCells w1 := fun _ h => h.cells
    generalize lawEx SS = ex at *
    generalize lawCells w1 = cs at *
    generalize w1.heap.size + 1 = B at *
    generalize (w1.alloc (lawRow SS)).alloc (Obj.cells cs 31) = W0 at *
    have hs0 := HST.out
    clear HST
    refine wp_region_text (St B cs ex w) (by kernel_rfl) (by kernel_rfl) hs0.drew ?_
    clear hs0
    repeat (first
      | (refine inText_no (by rfl) ?_; simp only [Act.put, List.setIfInBounds_toArray, List.set_cons_zero, List.set_cons_succ])
      | (refine inText_load (by rfl) (by rfl) ?_; simp only [Act.put, List.setIfInBounds_toArray, List.set_cons_zero, List.set_cons_succ])
      | (refine inText_go [] (.bool true) (by rfl) (by kernel_rfl) (by rfl) (fun V hV => awake_st V hV) ?_; simp only [Act.put, List.setIfInBounds_toArray, List.set_cons_zero, List.set_cons_succ])
      | (refine inText_go [.agg cs] _ (by rfl) (by kernel_rfl) (by rfl) (fun V hV => aux_st _ HA.out HL.out V hV) ?_; simp only [Act.put, List.setIfInBounds_toArray, List.set_cons_zero, List.set_cons_succ])
      | (refine inText_go [.agg cs] _ (by rfl) (by kernel_rfl) (by rfl) (fun V hV => auxRef_st _ HA.out HL.out V hV) ?_; simp only [Act.put, List.setIfInBounds_toArray, List.set_cons_zero, List.set_cons_succ])
      | (refine inText_bin (.bool true) (by rfl) (fun V hV => ?_) ?_; (focus (go_simp <;> omega)); simp only [Act.put, List.setIfInBounds_toArray, List.set_cons_zero, List.set_cons_succ])
      | (refine inText_bin (.bool false) (by rfl) (fun V hV => ?_) ?_; (focus (go_simp <;> omega)); simp only [Act.put, List.setIfInBounds_toArray, List.set_cons_zero, List.set_cons_succ])
      | (refine inText_val ?_ (by rfl) (fun V hV => ?_) ?_; rotate_left; (focus (go_simp; with_reducible rfl)); simp only [Act.put, List.setIfInBounds_toArray, List.set_cons_zero, List.set_cons_succ]))
    intro V hV
    go_wp2_with fail
    go_ret
    exact ⟨rfl, hV.bel⟩
end Go.Proofs.YtdekdejnoccajaaDoor
