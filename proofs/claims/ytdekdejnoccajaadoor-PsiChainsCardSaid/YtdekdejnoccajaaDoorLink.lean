/-
  psi.link and psi.Aux.
-/
import Derived.Test.YtdekdejnoccajaaDoorTake
import Derived.Test.YtdekdejnoccajaaDoorGet
set_option linter.unusedVariables false
set_option linter.unusedSimpArgs false
namespace Go.Proofs.YtdekdejnoccajaaDoor
open Go.RowKit Go.Lib

theorem take_gen (s : ByteArray) (v e : Int) (hv : takeV (bs s) = v) (he : takeE (bs s) = e) (w : World) (hw : Ready w) (hs : s.size ≤ 281474976710656) :
    Calls Tryd.prog 34 #[.string s] w fun r w' => r = .returned (.tuple #[.int .i64 v, .int .i64 e]) ∧ Below w.heap.size w w' := by
  subst hv; subst he; exact take_any s w hw hs

/-- The value of 'git.chain' is right: n, k. -/
def goodLink (s : List UInt8) : Bool :=
  decide (takeE (cut s [32]).1 = 0 ∧ takeE (cut s [32]).2.1 = 0 ∧ 2 ≤ takeV (cut s [32]).1 ∧ takeV (cut s [32]).1 ≤ 15 ∧ 1 ≤ takeV (cut s [32]).2.1 ∧ takeV (cut s [32]).2.1 ≤ takeV (cut s [32]).1)
def linkN (s : List UInt8) : Int := if goodLink s then takeV (cut s [32]).1 else 0
def linkK (s : List UInt8) : Int := if goodLink s then takeV (cut s [32]).2.1 else 0
/-- 'git.chain' -/
def gitChain : ByteArray := ⟨#[103, 105, 116, 46, 99, 104, 97, 105, 110]⟩

theorem infoChange : (Tryd.prog.info? 31).map (·.size) = some 67 := by kernel_rfl

/-- A change, by value: its 67 cells, its extras. -/
structure ChangeX (w : World) (cs : Array Value) (ex : List (ByteArray × ByteArray)) : Prop where
  size : cs.size = 67
  few : ex.length ≤ 140737488351232
  ext : ∃ A cap, cs[64]? = some (.slice A ex.length cap) ∧ RowAt w A (pairCells ex)
theorem ChangeX.below {w w1 : World} {cs : Array Value} {ex : List (ByteArray × ByteArray)} (h : ChangeX w cs ex) (hb : Below w.heap.size w w1) : ChangeX w1 cs ex :=
  ⟨h.size, h.few, let ⟨A, cap, h1, h2⟩ := h.ext; ⟨A, cap, h1, h2.below hb⟩⟩

theorem get_x (cs : Array Value) (key : ByteArray) (ex : List (ByteArray × ByteArray)) (w : World) (h : ChangeX w cs ex) :
    Calls Tryd.prog 32 #[.agg cs, .string key] w fun e w' => e = .returned (.tuple #[.string (getV ex key), .bool (getB ex key)]) ∧ Below w.heap.size w w' :=
  let ⟨A, cap, h1, h2⟩ := h.ext; get_any cs key A cap ex w h.few h1 h2

theorem get_s (cs : Array Value) (ex : List (ByteArray × ByteArray)) (s : ByteArray) (hs : s = getV ex gitChain) (w : World) (h : ChangeX w cs ex) :
    Calls Tryd.prog 32 #[.agg cs, .string ⟨#[103, 105, 116, 46, 99, 104, 97, 105, 110]⟩] w fun e w' => e = .returned (.tuple #[.string s, .bool (getB ex gitChain)]) ∧ Below w.heap.size w w' := by
  subst hs; exact get_x cs gitChain ex w h
theorem cut_len (l sep : List UInt8) : (cut l sep).1.length ≤ l.length ∧ (cut l sep).2.1.length ≤ l.length := by
  unfold cut; split
  · exact ⟨by rw [List.length_take]; omega, by rw [List.length_drop]; omega⟩
  · exact ⟨Nat.le_refl _, by simp⟩
theorem cut_s (s : ByteArray) (a b : List UInt8) (f : Bool) (ha : a = (cut (bs s) [32]).1) (hb : b = (cut (bs s) [32]).2.1) (hf : f = (cut (bs s) [32]).2.2) (w : World) (hw : Ready w) (hs : s.size < 4294967281) :
    Calls Tryd.prog 33 #[.string s, .string ⟨#[32]⟩] w fun e w' => e = .returned (.tuple #[.string (str a), .string (str b), .bool f]) ∧ Below w.heap.size w w' := by
  subst ha; subst hb; subst hf
  obtain ⟨m, hm⟩ := hw.maxLen
  refine (Tryd.strings_Cut s ⟨#[32]⟩ m w hs hm).mono ?_
  rintro e w1 ⟨rfl, n, rfl⟩
  exact ⟨rfl, below_drewNS (Below.refl _ _) n⟩
theorem take_s (a : List UInt8) (v e : Int) (hv : takeV a = v) (he : takeE a = e) (w : World) (hw : Ready w) (hs : (str a).size ≤ 281474976710656) :
    Calls Tryd.prog 34 #[.string (str a)] w fun r w' => r = .returned (.tuple #[.int .i64 v, .int .i64 e]) ∧ Below w.heap.size w w' := by
  have h1 : bs (str a) = a := by simp [bs, str]
  exact take_gen (str a) v e (by rw [h1]; exact hv) (by rw [h1]; exact he) w hw hs

set_option maxHeartbeats 1000000 in
set_option maxRecDepth 100000 in
theorem link_any (cs : Array Value) (ex : List (ByteArray × ByteArray)) (w : World) (hw : Ready w) (hc : ChangeX w cs ex) (hs : (getV ex gitChain).size < 4294967281) :
    Calls Tryd.prog 18 #[.agg cs] w fun e w' => e = .returned (.tuple #[.int .i64 (linkN (bs (getV ex gitChain))), .int .i64 (linkK (bs (getV ex gitChain))), .bool (goodLink (bs (getV ex gitChain)))]) ∧ Below w.heap.size w w' := by
  obtain ⟨s, hs0⟩ : ∃ s, s = getV ex gitChain := ⟨_, rfl⟩
  rw [← hs0] at hs ⊢
  have HS := Lib.hid hs0
  clear hs0
  obtain ⟨a, ha⟩ : ∃ a, a = (cut (bs s) [32]).1 := ⟨_, rfl⟩
  obtain ⟨b, hb⟩ : ∃ b, b = (cut (bs s) [32]).2.1 := ⟨_, rfl⟩
  obtain ⟨n, hn⟩ : ∃ n, takeV a = n := ⟨_, rfl⟩
  obtain ⟨k, hk⟩ : ∃ k, takeV b = k := ⟨_, rfl⟩
  obtain ⟨e1, he1⟩ : ∃ e, takeE a = e := ⟨_, rfl⟩
  obtain ⟨e2, he2⟩ : ∃ e, takeE b = e := ⟨_, rfl⟩
  have HG : Hid (goodLink (bs s) = decide (e1 = 0 ∧ e2 = 0 ∧ 2 ≤ n ∧ n ≤ 15 ∧ 1 ≤ k ∧ k ≤ n)) := Lib.hid (by unfold goodLink; rw [← ha, ← hb, hn, hk, he1, he2])
  have HN : Hid (linkN (bs s) = if goodLink (bs s) then n else 0) := Lib.hid (by unfold linkN; rw [← ha, hn])
  have HK : Hid (linkK (bs s) = if goodLink (bs s) then k else 0) := Lib.hid (by unfold linkK; rw [← hb, hk])
  have HA := Lib.hid ha
  have HB := Lib.hid hb
  have Hn := Lib.hid hn
  have Hk := Lib.hid hk
  have He1 := Lib.hid he1
  have He2 := Lib.hid he2
  clear ha hb hn hk he1 he2
  obtain ⟨m, hm⟩ := hw.maxLen
  have hl := cut_len (bs s) [32]
  have hbs : (bs s).length = s.size := rfl
  have la : (str a).size ≤ 281474976710656 := by rw [str_size, HA.out]; omega
  have lb : (str b).size ≤ 281474976710656 := by rw [str_size, HB.out]; omega
  clear hl hbs
  have hsz := Lib.hid hc.size
  have hcase : (e1 = 0 ∧ e2 = 0 ∧ 2 ≤ n ∧ n ≤ 15 ∧ 1 ≤ k ∧ k ≤ n) ∨ (e1 ≠ 0) ∨ (e1 = 0 ∧ e2 ≠ 0) ∨ (e1 = 0 ∧ e2 = 0 ∧ n < 2) ∨ (e1 = 0 ∧ e2 = 0 ∧ 2 ≤ n ∧ 15 < n) ∨ (e1 = 0 ∧ e2 = 0 ∧ 2 ≤ n ∧ n ≤ 15 ∧ k < 1) ∨ (e1 = 0 ∧ e2 = 0 ∧ 2 ≤ n ∧ n ≤ 15 ∧ 1 ≤ k ∧ n < k) := by omega
  have yes : (e1 = 0 ∧ e2 = 0 ∧ 2 ≤ n ∧ n ≤ 15 ∧ 1 ≤ k ∧ k ≤ n) → linkN (bs s) = n ∧ linkK (bs s) = k ∧ goodLink (bs s) = true := fun h => by
    have e : goodLink (bs s) = true := by rw [HG.out]; exact decide_eq_true h
    rw [HN.out, HK.out, e]; exact ⟨rfl, rfl, rfl⟩
  have no : ¬ (e1 = 0 ∧ e2 = 0 ∧ 2 ≤ n ∧ n ≤ 15 ∧ 1 ≤ k ∧ k ≤ n) → linkN (bs s) = 0 ∧ linkK (bs s) = 0 ∧ goodLink (bs s) = false := fun h => by
    have e : goodLink (bs s) = false := by rw [HG.out]; exact decide_eq_false h
    rw [HN.out, HK.out, e]; exact ⟨rfl, rfl, rfl⟩
  have YES := Lib.hid yes
  have NO := Lib.hid no
  clear yes no HG HN HK
  rcases hcase with ⟨rfl, rfl, h3, h4, h5, h6⟩ | h1 | ⟨rfl, h2⟩ | ⟨rfl, rfl, h3⟩ | ⟨rfl, rfl, h3, h4⟩ | ⟨rfl, rfl, h3, h4, h5⟩ | ⟨rfl, rfl, h3, h4, h5, h6⟩
  all_goals (
    go_enter Tryd.func18, Tryd.ntmps18
    go_wp2_with (refine wpList_load_row rfl 31 _ rfl w.heap.size rfl 31 cs (0, 0) _ (heap_alloc_new _ _) Tryd.underlying31 rfl (by rw [hsz.out]; exact infoChange) ?_)
    refine (get_s cs ex s HS.out _ (hc.below (below_alloc (Below.refl _ _) _))).mono ?_
    rintro e w1 ⟨rfl, hb1⟩
    have B1 := below_call (below_alloc (Below.refl w.heap.size w) _) hb1
    clear hb1
    go_wp2_with fail
    refine (cut_s s a b _ HA.out HB.out rfl _ (hw.below B1) hs).mono ?_
    rintro e w2 ⟨rfl, hb2⟩
    have B2 := below_call B1 hb2
    clear hb2 B1
    go_wp2_with fail
    refine (take_s a n _ Hn.out He1.out _ (hw.below B2) la).mono ?_
    rintro e w3 ⟨rfl, hb3⟩
    have B3 := below_call B2 hb3
    clear hb3 B2
    go_wp2_with fail
    refine (take_s b k _ Hk.out He2.out _ (hw.below B3) lb).mono ?_
    rintro e w4 ⟨rfl, hb4⟩
    have B4 := below_call B3 hb4
    clear hb4 B3
    go_wp2_with fail)
  · go_ret3
    have F := YES.out (by refine ⟨?_, ?_, ?_, ?_, ?_, ?_⟩ <;> first | trivial | omega)
    rw [F.1, F.2.1, F.2.2]
    exact ⟨rfl, B4⟩
  all_goals (
    go_ret3
    have F := NO.out (by omega)
    rw [F.1, F.2.1, F.2.2]
    exact ⟨rfl, B4⟩)

/-- P24.1: is a change of these extras auxiliary? -/
def isAux (ex : List (ByteArray × ByteArray)) : Bool := goodLink (bs (getV ex gitChain)) && decide (linkK (bs (getV ex gitChain)) < linkN (bs (getV ex gitChain)))

theorem link_s (cs : Array Value) (ex : List (ByteArray × ByteArray)) (n k : Int) (g : Bool) (hn : linkN (bs (getV ex gitChain)) = n) (hk : linkK (bs (getV ex gitChain)) = k) (hg : goodLink (bs (getV ex gitChain)) = g) (w : World) (hw : Ready w) (hc : ChangeX w cs ex) (hs : (getV ex gitChain).size < 4294967281) :
    Calls Tryd.prog 18 #[.agg cs] w fun e w' => e = .returned (.tuple #[.int .i64 n, .int .i64 k, .bool g]) ∧ Below w.heap.size w w' := by
  subst hn; subst hk; subst hg; exact link_any cs ex w hw hc hs

set_option maxRecDepth 100000 in
theorem aux_any (cs : Array Value) (ex : List (ByteArray × ByteArray)) (w : World) (hw : Ready w) (hc : ChangeX w cs ex) (hs : (getV ex gitChain).size < 4294967281) :
    Calls Tryd.prog 7 #[.agg cs] w fun e w' => e = .returned (.bool (isAux ex)) ∧ Below w.heap.size w w' := by
  obtain ⟨n, hn⟩ : ∃ n, linkN (bs (getV ex gitChain)) = n := ⟨_, rfl⟩
  obtain ⟨k, hk⟩ : ∃ k, linkK (bs (getV ex gitChain)) = k := ⟨_, rfl⟩
  obtain ⟨g, hg⟩ : ∃ g, goodLink (bs (getV ex gitChain)) = g := ⟨_, rfl⟩
  have HF : Hid (isAux ex = (g && decide (k < n))) := Lib.hid (by unfold isAux; rw [hn, hk, hg])
  have HN := Lib.hid hn
  have HK := Lib.hid hk
  have HG := Lib.hid hg
  have hsz := Lib.hid hc.size
  clear hn hk hg
  cases g
  all_goals (
    go_enter Tryd.func7, Tryd.ntmps7
    go_wp2_with (refine wpList_load_row rfl 31 _ rfl w.heap.size rfl 31 cs (0, 0) _ (heap_alloc_new _ _) Tryd.underlying31 rfl (by rw [hsz.out]; exact infoChange) ?_)
    refine (link_s cs ex n k _ HN.out HK.out HG.out _ (hw.alloc _) (hc.below (below_alloc (Below.refl _ _) _)) hs).mono ?_
    rintro e w1 ⟨rfl, hb1⟩
    have B1 := below_call (below_alloc (Below.refl w.heap.size w) _) hb1
    clear hb1
    go_wp2_with fail
    go_ret
    refine ⟨ret_eq (congrArg Value.bool ?_), B1⟩
    rw [HF.out]
    simp)
end Go.Proofs.YtdekdejnoccajaaDoor
