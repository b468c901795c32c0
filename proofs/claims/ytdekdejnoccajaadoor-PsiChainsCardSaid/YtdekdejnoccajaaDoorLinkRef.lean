/-
  The reference's Number and Aux (layer 24).
-/
import Derived.Test.YtdekdejnoccajaaDoorLink
import Derived.Test.YtdekdejnoccajaaDoorGetRef
import Derived.Test.YtdekdejnoccajaaDoorFind
import Derived.Test.YtdekdejnoccajaaDoorTakeRef
set_option linter.unusedVariables false
set_option linter.unusedSimpArgs false
namespace Go.Proofs.YtdekdejnoccajaaDoor
open Go.RowKit Go.Lib

theorem getRef_s (cs : Array Value) (ex : List (ByteArray × ByteArray)) (s : ByteArray) (bo : Bool) (hs : s = getV ex gitChain) (hb : bo = getB ex gitChain) (w : World) (h : ChangeX w cs ex) :
    Calls Tryd.prog 35 #[.agg cs, .string ⟨#[103, 105, 116, 46, 99, 104, 97, 105, 110]⟩] w fun e w' => e = .returned (.tuple #[.string s, .bool bo]) ∧ Below w.heap.size w w' := by
  subst hs; subst hb
  obtain ⟨A, cap, h1, h2⟩ := h.ext
  exact getRef_any cs gitChain A cap ex w h.few h1 h2
theorem find_s (s : ByteArray) (v : Int) (hv : index s.data.toList [32] = v) (w : World) (hs : s.size ≤ 140737488351232) :
    Calls Tryd.prog 36 #[.string s, .string ⟨#[32]⟩, .int .i64 0] w fun e w' => e = .returned (.int .i64 v) ∧ w = w' := by
  subst hv
  rw [← findV_zero]
  exact find_any s ⟨#[32]⟩ 0 w hs (by decide) (by decide)
theorem takeRef_s (s : ByteArray) (v e : Int) (hv : takeV s.data.toList = v) (he : takeE s.data.toList = e) (w : World) (hs : s.size ≤ 140737488351232) :
    Calls Tryd.prog 37 #[.string s] w fun r w' => r = .returned (.tuple #[.int .i64 v, .int .i64 e]) ∧ w = w' := by
  subst hv; subst he; exact takeRef_any s w hs
theorem getB_false {ex : List (ByteArray × ByteArray)} {key : ByteArray} (h : getB ex key = false) : getV ex key = ⟨#[]⟩ := by
  refine (get_none key ex fun j hj => ?_).1
  unfold getB at h
  have := List.any_eq_false.1 h ex[j] (List.getElem_mem hj)
  simpa using this
theorem extract_size_le (s : ByteArray) (a b : Nat) : (s.extract a b).size ≤ s.size := by
  rw [Lib.size_eq, extract_data, List.length_take, List.length_drop]; show _ ≤ s.data.toList.length; omega

set_option maxHeartbeats 1000000 in
set_option maxRecDepth 100000 in
theorem linkRef_any (cs : Array Value) (ex : List (ByteArray × ByteArray)) (w : World) (hc : ChangeX w cs ex) (hs : (getV ex gitChain).size ≤ 140737488351232) :
    Calls Tryd.prog 19 #[.agg cs] w fun e w' => e = .returned (.tuple #[.int .i64 (linkN (bs (getV ex gitChain))), .int .i64 (linkK (bs (getV ex gitChain)))]) ∧ Below w.heap.size w w' := by
  obtain ⟨s, hs0⟩ : ∃ s, s = getV ex gitChain := ⟨_, rfl⟩
  obtain ⟨bo, hb0⟩ : ∃ bo, bo = getB ex gitChain := ⟨_, rfl⟩
  obtain ⟨i, hi⟩ : ∃ i, index s.data.toList [32] = i := ⟨_, rfl⟩
  have hge := index_ge s.data.toList [32]
  have hle := index_le s.data.toList [32]
  rw [hi] at hge hle
  rw [← hs0] at hs ⊢
  have hbo : bo = false → i = -1 := fun h => by
    rw [hb0] at h
    have := getB_false h
    rw [← hi, hs0, this]; rfl
  have hlen : s.data.toList.length = s.size := rfl
  rw [hlen] at hle
  have HS := Lib.hid hs0
  have HB := Lib.hid hb0
  have HI := Lib.hid hi
  have hsz := Lib.hid hc.size
  clear hs0 hb0 hi hlen
  by_cases hneg : i = -1
  · have HF : Hid (linkN (bs s) = 0 ∧ linkK (bs s) = 0) := Lib.hid (by
      have hc : cut (bs s) [32] = (bs s, [], false) := by unfold cut; rw [if_neg (by show ¬ 0 ≤ index s.data.toList [32]; rw [HI.out]; omega)]
      have hg : goodLink (bs s) = false := by
        unfold goodLink; rw [hc]
        exact decide_eq_false (fun h => by have := h.2.1; simp [takeE] at this)
      unfold linkN linkK; rw [hg]; exact ⟨rfl, rfl⟩)
    subst hneg
    clear hbo
    cases bo
    all_goals (
      go_enter Tryd.func19, Tryd.ntmps19
      go_wp2_with (refine wpList_load_row rfl 31 _ rfl w.heap.size rfl 31 cs (0, 0) _ (heap_alloc_new _ _) Tryd.underlying31 rfl (by rw [hsz.out]; exact infoChange) ?_)
      refine (getRef_s cs ex s _ HS.out HB.out _ (hc.below (below_alloc (Below.refl _ _) _))).mono ?_
      rintro e w1 ⟨rfl, hb1⟩
      have B1 := below_call (below_alloc (Below.refl w.heap.size w) _) hb1
      clear hb1
      go_wp2_with fail
      refine (find_s s _ HI.out _ hs).mono ?_
      rintro e w2 ⟨rfl, rfl⟩
      go_wp2_with fail
      go_ret2
      rw [HF.out.1, HF.out.2]
      exact ⟨rfl, B1⟩)
  · obtain rfl : bo = true := by cases bo with | true => rfl | false => exact absurd (hbo rfl) hneg
    obtain ⟨p, rfl⟩ : ∃ p : Nat, i = p := ⟨i.toNat, by omega⟩
    clear hbo hneg hge
    have hcut : cut (bs s) [32] = ((bs s).take p, (bs s).drop (p + 1), true) := by
      unfold cut
      have e : index (bs s) [32] = (p : Int) := HI.out
      rw [e, if_pos (by omega)]; rfl
    have hp : p < s.size := by
      have := index_fits HI.out
      have hl : s.data.toList.length = s.size := rfl
      rw [hl] at this
      simp at this
      omega
    obtain ⟨n, hn⟩ : ∃ n, takeV (s.extract 0 p).data.toList = n := ⟨_, rfl⟩
    obtain ⟨e1, he1⟩ : ∃ n, takeE (s.extract 0 p).data.toList = n := ⟨_, rfl⟩
    obtain ⟨k, hk⟩ : ∃ n, takeV (s.extract (p + 1) s.size).data.toList = n := ⟨_, rfl⟩
    obtain ⟨e2, he2⟩ : ∃ n, takeE (s.extract (p + 1) s.size).data.toList = n := ⟨_, rfl⟩
    have ea : (s.extract 0 p).data.toList = (bs s).take p := by rw [extract_data]; simp
    have eb : (s.extract (p + 1) s.size).data.toList = (bs s).drop (p + 1) := by
      rw [extract_data]; exact List.take_of_length_le (by rw [List.length_drop]; exact Nat.le_refl _)
    have HG : goodLink (bs s) = decide (e1 = 0 ∧ e2 = 0 ∧ 2 ≤ n ∧ n ≤ 15 ∧ 1 ≤ k ∧ k ≤ n) := by
      unfold goodLink; rw [hcut, ← hn, ← hk, ← he1, ← he2, ea, eb]
    have HN : linkN (bs s) = if goodLink (bs s) then n else 0 := by unfold linkN; rw [hcut, ← hn, ea]
    have HK : linkK (bs s) = if goodLink (bs s) then k else 0 := by unfold linkK; rw [hcut, ← hk, eb]
    have yes : (e1 = 0 ∧ e2 = 0 ∧ 2 ≤ n ∧ n ≤ 15 ∧ 1 ≤ k ∧ k ≤ n) → linkN (bs s) = n ∧ linkK (bs s) = k := fun h => by
      have e : goodLink (bs s) = true := by rw [HG]; exact decide_eq_true h
      rw [HN, HK, e]; exact ⟨rfl, rfl⟩
    have no : ¬ (e1 = 0 ∧ e2 = 0 ∧ 2 ≤ n ∧ n ≤ 15 ∧ 1 ≤ k ∧ k ≤ n) → linkN (bs s) = 0 ∧ linkK (bs s) = 0 := fun h => by
      have e : goodLink (bs s) = false := by rw [HG]; exact decide_eq_false h
      rw [HN, HK, e]; exact ⟨rfl, rfl⟩
    have YES := Lib.hid yes
    have NO := Lib.hid no
    have Hn := Lib.hid hn
    have Hk := Lib.hid hk
    have He1 := Lib.hid he1
    have He2 := Lib.hid he2
    have LA : Hid ((s.extract 0 p).size ≤ 140737488351232) := Lib.hid (Nat.le_trans (extract_size_le _ _ _) hs)
    have LB : Hid ((s.extract (p + 1) s.size).size ≤ 140737488351232) := Lib.hid (Nat.le_trans (extract_size_le _ _ _) hs)
    clear yes no hn hk he1 he2 HG HN HK ea eb hcut
    have hcase : (e1 = 0 ∧ e2 = 0 ∧ 2 ≤ n ∧ n ≤ 15 ∧ 1 ≤ k ∧ k ≤ n) ∨ (e1 ≠ 0) ∨ (e1 = 0 ∧ e2 ≠ 0) ∨ (e1 = 0 ∧ e2 = 0 ∧ n < 2) ∨ (e1 = 0 ∧ e2 = 0 ∧ 2 ≤ n ∧ 15 < n) ∨ (e1 = 0 ∧ e2 = 0 ∧ 2 ≤ n ∧ n ≤ 15 ∧ k < 1) ∨ (e1 = 0 ∧ e2 = 0 ∧ 2 ≤ n ∧ n ≤ 15 ∧ 1 ≤ k ∧ n < k) := by omega
    rcases hcase with ⟨rfl, rfl, h3, h4, h5, h6⟩ | h1 | ⟨rfl, h2⟩ | ⟨rfl, rfl, h3⟩ | ⟨rfl, rfl, h3, h4⟩ | ⟨rfl, rfl, h3, h4, h5⟩ | ⟨rfl, rfl, h3, h4, h5, h6⟩
    all_goals (
      go_enter Tryd.func19, Tryd.ntmps19
      go_wp2_with (refine wpList_load_row rfl 31 _ rfl w.heap.size rfl 31 cs (0, 0) _ (heap_alloc_new _ _) Tryd.underlying31 rfl (by rw [hsz.out]; exact infoChange) ?_)
      refine (getRef_s cs ex s _ HS.out HB.out _ (hc.below (below_alloc (Below.refl _ _) _))).mono ?_
      rintro e w1 ⟨rfl, hb1⟩
      have B1 := below_call (below_alloc (Below.refl w.heap.size w) _) hb1
      clear hb1
      go_wp2_with fail
      refine (find_s s _ HI.out _ hs).mono ?_
      rintro e w2 ⟨rfl, rfl⟩
      go_wp2_with fail
      refine (takeRef_s _ _ _ Hn.out He1.out _ LA.out).mono ?_
      rintro e w2 ⟨rfl, rfl⟩
      go_wp2_with fail
      refine (takeRef_s _ _ _ Hk.out He2.out _ LB.out).mono ?_
      rintro e w2 ⟨rfl, rfl⟩
      go_wp2_with fail
      go_ret2)
    · have F := YES.out (by refine ⟨?_, ?_, ?_, ?_, ?_, ?_⟩ <;> first | trivial | omega)
      rw [F.1, F.2]
      exact ⟨rfl, B1⟩
    all_goals (
      have F := NO.out (by omega)
      rw [F.1, F.2]
      exact ⟨rfl, B1⟩)
end Go.Proofs.YtdekdejnoccajaaDoor
