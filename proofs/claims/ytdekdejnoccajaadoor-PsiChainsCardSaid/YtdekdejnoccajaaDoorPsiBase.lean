/-
  PsiChains: what its walk stands on.
-/
import Derived.Test.YtdekdejnoccajaaDoorLinkRef
import Derived.Test.YtdekdejnoccajaaDoorChains
import Derived.Deep.WholeRow
import Derived.Deep.MidRow
import Derived.Test.YtdekdejnoccajaaDoorOrderly
set_option linter.unusedVariables false
set_option linter.unusedSimpArgs false
namespace Go.Proofs.YtdekdejnoccajaaDoor
open Go.RowKit Go.Lib

theorem linkRef_s (cs : Array Value) (ex : List (ByteArray × ByteArray)) (n k : Int) (hn : linkN (bs (getV ex gitChain)) = n) (hk : linkK (bs (getV ex gitChain)) = k) (w : World) (hc : ChangeX w cs ex) (hs : (getV ex gitChain).size ≤ 140737488351232) :
    Calls Tryd.prog 19 #[.agg cs] w fun e w' => e = .returned (.tuple #[.int .i64 n, .int .i64 k]) ∧ Below w.heap.size w w' := by
  subst hn; subst hk; exact linkRef_any cs ex w hc hs

set_option maxRecDepth 100000 in
theorem auxRef_any (cs : Array Value) (ex : List (ByteArray × ByteArray)) (w : World) (hc : ChangeX w cs ex) (hs : (getV ex gitChain).size ≤ 140737488351232) :
    Calls Tryd.prog 8 #[.agg cs] w fun e w' => e = .returned (.bool (isAux ex)) ∧ Below w.heap.size w w' := by
  obtain ⟨n, hn⟩ : ∃ n, linkN (bs (getV ex gitChain)) = n := ⟨_, rfl⟩
  obtain ⟨k, hk⟩ : ∃ k, linkK (bs (getV ex gitChain)) = k := ⟨_, rfl⟩
  have hpos : (goodLink (bs (getV ex gitChain)) = true ∧ 2 ≤ n) ∨ (goodLink (bs (getV ex gitChain)) = false ∧ n = 0) := by
    rw [← hn]
    unfold linkN
    cases hg : goodLink (bs (getV ex gitChain)) with
    | false => exact Or.inr ⟨rfl, rfl⟩
    | true =>
      have := of_decide_eq_true (show decide _ = true from by unfold goodLink at hg; exact hg)
      exact Or.inl ⟨rfl, by simpa using this.2.2.1⟩
  have hsz := Lib.hid hc.size
  rcases hpos with ⟨hg, h2⟩ | ⟨hg, rfl⟩
  · have HF : Hid (isAux ex = decide (k < n)) := Lib.hid (by unfold isAux; rw [hn, hk, hg]; rfl)
    have HN := Lib.hid hn
    have HK := Lib.hid hk
    clear hn hk hg
    go_enter Tryd.func8, Tryd.ntmps8
    go_wp2_with (refine wpList_load_row rfl 31 _ rfl w.heap.size rfl 31 cs (0, 0) _ (heap_alloc_new _ _) Tryd.underlying31 rfl (by rw [hsz.out]; exact infoChange) ?_)
    refine (linkRef_s cs ex n k HN.out HK.out _ (hc.below (below_alloc (Below.refl _ _) _)) hs).mono ?_
    rintro e w1 ⟨rfl, hb1⟩
    have B1 := below_call (below_alloc (Below.refl w.heap.size w) _) hb1
    clear hb1
    go_wp2_with fail
    go_ret
    exact ⟨ret_eq (congrArg Value.bool HF.out.symm), B1⟩
  · have HF : Hid (isAux ex = false) := Lib.hid (by unfold isAux; rw [hg]; rfl)
    have HN := Lib.hid hn
    have HK := Lib.hid hk
    clear hn hk hg
    go_enter Tryd.func8, Tryd.ntmps8
    go_wp2_with (refine wpList_load_row rfl 31 _ rfl w.heap.size rfl 31 cs (0, 0) _ (heap_alloc_new _ _) Tryd.underlying31 rfl (by rw [hsz.out]; exact infoChange) ?_)
    refine (linkRef_s cs ex 0 k HN.out HK.out _ (hc.below (below_alloc (Below.refl _ _) _)) hs).mono ?_
    rintro e w1 ⟨rfl, hb1⟩
    have B1 := below_call (below_alloc (Below.refl w.heap.size w) _) hb1
    clear hb1
    go_wp2_with fail
    go_ret
    exact ⟨ret_eq (congrArg Value.bool HF.out.symm), B1⟩

theorem aux_s (cs : Array Value) (ex : List (ByteArray × ByteArray)) (b : Bool) (hb : isAux ex = b) (w : World) (hw : Ready w) (hc : ChangeX w cs ex) (hs : (getV ex gitChain).size < 4294967281) :
    Calls Tryd.prog 7 #[.agg cs] w fun e w' => e = .returned (.bool b) ∧ Below w.heap.size w w' := by
  subst hb; exact aux_any cs ex w hw hc hs

/-- '3 1' -/
def txt31 : ByteArray := ⟨#[51, 32, 49]⟩
theorem txt31_eq : txt31 = str (chainTxt 3 1) := by
  have h3 : itoa 3 = [51] := by rw [show (3 : Int) = ((3 : Nat) : Int) from rfl, itoa_nonneg, decDigits_small (by decide)]; rfl
  have h1 : itoa 1 = [49] := by rw [show (1 : Int) = ((1 : Nat) : Int) from rfl, itoa_nonneg, decDigits_small (by decide)]; rfl
  unfold chainTxt; rw [h3, h1]; rfl
theorem awake_yes : isAux [(gitChain, txt31)] = true := by
  rw [aux_chain 3 1 (by decide) (by decide) (by decide) (by decide) (by rw [getV_one, txt31_eq])]; decide
theorem awake_no : isAux [] = false := by
  refine aux_of_not (s := ⟨#[]⟩) rfl ?_
  unfold goodLink
  exact decide_eq_false fun h => by
    have e : cut (bs ⟨#[]⟩) [32] = ([], [], false) := by decide
    rw [e] at h
    have := h.1
    simp [takeE] at this
theorem zero_size : Tryd.zeroCells31.size = 67 := by kernel_rfl
theorem zero_ext : Tryd.zeroCells31[64]? = some (.slice none 0 0) := by kernel_rfl
theorem changeX_zero (w : World) : ChangeX w Tryd.zeroCells31 [] := ⟨zero_size, by simp, none, 0, zero_ext, .inl rfl⟩
theorem changeX_set (w : World) (A : Option Addr) (ex : List (ByteArray × ByteArray)) (cap : Nat) (hf : ex.length ≤ 140737488351232) (hr : RowAt w A (pairCells ex)) :
    ChangeX w (Tryd.zeroCells31.setIfInBounds 64 (.slice A ex.length cap)) ex := by
  refine ⟨by rw [Array.size_setIfInBounds]; exact zero_size, hf, A, cap, ?_, hr⟩
  rw [Array.getElem?_setIfInBounds_self_of_lt (by rw [zero_size]; decide)]
/-- A row of pairs that was just laid. -/
theorem rowAt_new (w : World) (ex : List (ByteArray × ByteArray)) (T : TypeId) : RowAt (w.alloc (.cells (pairCells ex).toArray T)) (some ⟨w.heap.size, 0, none⟩) (pairCells ex) := by
  refine .inr ⟨w.heap.size, 0, rfl, fun j h => ?_⟩
  rw [cell_of_row _ _ _ _ _ _ (heap_alloc_new w _)]
  simp [h]

set_option maxHeartbeats 1000000 in
set_option maxRecDepth 100000 in
theorem awake_any (w : World) (hw : Ready w) :
    Calls Tryd.prog 6 #[] w fun e w' => e = .returned (.bool true) ∧ Below w.heap.size w w' := by
  go_enter Tryd.func6, Tryd.ntmps6
  go_wp2_with fail
  have R : RowAt (w.alloc (Obj.cells #[Value.string { data := #[103, 105, 116, 46, 99, 104, 97, 105, 110] }, Value.string { data := #[51, 32, 49] }] 25)) (some ⟨w.heap.size, 0, none⟩) (pairCells [(gitChain, txt31)]) := rowAt_new w [(gitChain, txt31)] _
  refine (aux_s _ [(gitChain, txt31)] true awake_yes _ (hw.alloc _) (changeX_set _ _ _ 1 (by decide) R) (by rw [getV_one]; decide)).mono ?_
  rintro e w1 ⟨rfl, hb1⟩
  have B1 := below_call (below_alloc (Below.refl w.heap.size w) _) hb1
  clear hb1
  go_wp2_with fail
  refine (aux_s _ [] false awake_no _ (hw.below B1) (changeX_zero _) (by decide)).mono ?_
  rintro e w2 ⟨rfl, hb2⟩
  go_wp2_with fail
  go_ret
  exact ⟨rfl, below_call B1 hb2⟩

theorem auxRef_s (cs : Array Value) (ex : List (ByteArray × ByteArray)) (b : Bool) (hb : isAux ex = b) (w : World) (hc : ChangeX w cs ex) (hs : (getV ex gitChain).size ≤ 140737488351232) :
    Calls Tryd.prog 8 #[.agg cs] w fun e w' => e = .returned (.bool b) ∧ Below w.heap.size w w' := by
  subst hb; exact auxRef_any cs ex w hc hs

/-- What holds all along the law's last statement. -/
structure St (B : Nat) (cs : Array Value) (ex : List (ByteArray × ByteArray)) (w0 W : World) : Prop where
  ready : Ready W
  chg : ChangeX W cs ex
  blk : W.heap[B]? = some (.cells cs 31 (0, 0))
  bel : Below w0.heap.size w0 W
theorem St.below {B : Nat} {cs : Array Value} {ex : List (ByteArray × ByteArray)} {w0 W W1 : World} (h : St B cs ex w0 W) (hb : Below W.heap.size W W1) : St B cs ex w0 W1 := by
  refine ⟨h.ready.below hb, h.chg.below hb, ?_, below_call h.bel hb⟩
  have hlt : B < W.heap.size := by
    rcases Nat.lt_or_ge B W.heap.size with h' | h'
    · exact h'
    · have := h.blk; rw [Array.getElem?_eq_none h'] at this; cases this
  rw [hb.block B hlt]; exact h.blk
theorem St.drew {B : Nat} {cs : Array Value} {ex : List (ByteArray × ByteArray)} {w0 W : World} (h : St B cs ex w0 W) : St B cs ex w0 W.drew := h.below (below_drewS (Below.refl _ _))
/-- The cells of a block. -/
def cellsAt (W : World) (B : Nat) : Array Value := match W.heap[B]? with | some (.cells c _ _) => c | _ => #[]
/-- A whole change lies in a block. -/
structure RowC (W : World) (B : Nat) : Prop where
  at' : ∃ cs, W.heap[B]? = some (.cells cs 31 (0, 0)) ∧ cs.size = 67
/-- A pointer to a block's head. -/
def isPtr0 : Value → Bool
  | .pointer (some a) => a.off == 0 && a.spot.isNone
  | _ => false
def blockOf : Value → Nat
  | .pointer (some a) => a.block
  | _ => 0
theorem isPtr0_mk (B : Nat) : isPtr0 (.pointer (some ⟨B, 0, none⟩)) = true := rfl
theorem blockOf_mk (a : Addr) : blockOf (.pointer (some a)) = a.block := rfl
theorem ptr0_of {v : Value} (h : isPtr0 v = true) : v = .pointer (some ⟨blockOf v, 0, none⟩) := by
  unfold isPtr0 at h
  split at h
  · rename_i a
    obtain ⟨b, o, s⟩ := a
    simp only [Bool.and_eq_true, beq_iff_eq, Option.isNone_iff_eq_none] at h
    obtain ⟨rfl, rfl⟩ := h
    rfl
  · cases h
/-- A whole change is read, as one operation. -/
theorem loadChange (ev : Operand → Value) (d : Option Tmp) (x : Operand) (T : TypeId) (pos : String) (af : Array Edge) (g : Option (Nat × Bool)) (W : World) (h0 : isPtr0 (ev x) = true) (h : RowC W (blockOf (ev x))) :
    (execOp ev ⟨d, .load 31 x, T, pos, af, g⟩).run Tryd.prog W = .ok (.value (.agg (cellsAt W (blockOf (ev x))))) W := by
  obtain ⟨cs, h1, h2⟩ := h.at'
  have e : cellsAt W (blockOf (ev x)) = cs := by unfold cellsAt; rw [h1]
  rw [e]
  have hp := ptr0_of h0
  unfold execOp
  simp only [Instr.loadAt]
  rw [hp]
  simp only [Instr.sureAddr, Sem.run_bind, Sem.run_pure, Result.andThen]
  rw [run_loadVar_row _ _ _ _ cs (0, 0) _ h1 Tryd.underlying31 rfl (by rw [h2]; exact infoChange)]
theorem St.row {B : Nat} {cs : Array Value} {ex : List (ByteArray × ByteArray)} {w0 W : World} (h : St B cs ex w0 W) : RowC W B := ⟨cs, h.blk, h.chg.size⟩
theorem St.cells {B : Nat} {cs : Array Value} {ex : List (ByteArray × ByteArray)} {w0 W : World} (h : St B cs ex w0 W) : cellsAt W B = cs := by unfold cellsAt; rw [h.blk]
theorem aux_st {B : Nat} {cs : Array Value} {ex : List (ByteArray × ByteArray)} {w0 : World} (b : Bool) (hb : isAux ex = b) (hs : (getV ex gitChain).size ≤ 1000) (W : World) (h : St B cs ex w0 W) :
    Calls Tryd.prog 7 #[.agg cs] W fun e w' => e = .returned (.bool b) ∧ St B cs ex w0 w' :=
  (aux_s cs ex b hb W h.ready h.chg (by omega)).mono fun _ _ ⟨he, hb⟩ => ⟨he, h.below hb⟩
theorem auxRef_st {B : Nat} {cs : Array Value} {ex : List (ByteArray × ByteArray)} {w0 : World} (b : Bool) (hb : isAux ex = b) (hs : (getV ex gitChain).size ≤ 1000) (W : World) (h : St B cs ex w0 W) :
    Calls Tryd.prog 8 #[.agg cs] W fun e w' => e = .returned (.bool b) ∧ St B cs ex w0 w' :=
  (auxRef_s cs ex b hb W h.chg (by omega)).mono fun _ _ ⟨he, hb⟩ => ⟨he, h.below hb⟩
theorem awake_st {B : Nat} {cs : Array Value} {ex : List (ByteArray × ByteArray)} {w0 : World} (W : World) (h : St B cs ex w0 W) :
    Calls Tryd.prog 6 #[] W fun e w' => e = .returned (.bool true) ∧ St B cs ex w0 w' :=
  (awake_any W h.ready).mono fun _ _ ⟨he, hb⟩ => ⟨he, h.below hb⟩

theorem inText_load {B : Nat} {cs : Array Value} {ex : List (ByteArray × ByteArray)} {w0 : World} {ops : Array Oper} {K : Act → Prop} {d : Option Tmp} {x : Operand} {T : TypeId} {pos : String} {af : Array Edge} {g : Option (Nat × Bool)} {rest : List Oper} {a : Act}
    (hw : Region.wanted ⟨d, .load 31 x, T, pos, af, g⟩ (yielded ops a.tmps) = true) (he : a.eval x = .pointer (some ⟨B, 0, none⟩)) (h : InText Tryd.prog (St B cs ex w0) ops K rest (a.put d (.agg cs))) :
    InText Tryd.prog (St B cs ex w0) ops K (⟨d, .load 31 x, T, pos, af, g⟩ :: rest) a :=
  inText_val _ hw (fun V hV => by
    rw [loadChange a.eval d x T pos af g V (by rw [he]; rfl) (by rw [he]; exact hV.row)]
    rw [he, blockOf_mk, hV.cells]) h

/-- The extras of the law's change. -/
def lawEx (s : ByteArray) : List (ByteArray × ByteArray) := [(⟨#[97]⟩, txt31), (gitChain, s)]
theorem lawEx_get (s : ByteArray) : getV (lawEx s) gitChain = s := getV_two _ _ _ (by rw [toList_bs, toList_bs]; decide)
noncomputable def lawCells (w : World) : Array Value := Tryd.zeroCells31.setIfInBounds 64 (.slice (some ⟨w.heap.size, 0, none⟩) 2 2)
def lawRow (s : ByteArray) : Obj := Obj.cells #[Value.string { data := #[97] }, Value.string { data := #[51, 32, 49] }, Value.string { data := #[103, 105, 116, 46, 99, 104, 97, 105, 110] }, Value.string s] 25
theorem lawStore (w : World) (s : ByteArray) : (storeCells { block := w.heap.size + 1, off := 0 } (Tryd.zeroCells31.toList.set 64 (Value.slice (some { block := w.heap.size, off := 0 }) 2 2))).run Tryd.prog
    ((w.alloc (Obj.cells #[Value.string { data := #[97] }, Value.string { data := #[51, 32, 49] }, Value.string { data := #[103, 105, 116, 46, 99, 104, 97, 105, 110] }, Value.string s] 25)).alloc (Obj.cells Tryd.zeroCells31 31)) =
    .ok () ((w.alloc (lawRow s)).alloc (.cells (lawCells w) 31)) := by
  have h := run_storeCells_new (P := Tryd.prog) (w.alloc (lawRow s)) 31 Tryd.zeroCells31 (lawCells w) (by unfold lawCells; rw [Array.size_setIfInBounds, zero_size]; exact infoChange) (by unfold lawCells; rw [Array.size_setIfInBounds]) (by
    have h0 : Tryd.zeroCells31.all (·.oneCell') = true := by kernel_rfl
    rw [Array.all_eq_true] at h0 ⊢
    intro i hi
    unfold lawCells
    have hi' : i < Tryd.zeroCells31.size := by unfold lawCells at hi; simpa using hi
    have e : (lawCells w)[i] = if 64 = i then .slice (some ⟨w.heap.size, 0, none⟩) 2 2 else Tryd.zeroCells31[i] := Array.getElem_setIfInBounds hi'
    refine (congrArg (fun v : Value => v.oneCell' = true) e).mpr ?_
    split
    · rfl
    · exact h0 i hi')
  have e1 : (w.alloc (lawRow s)).heap.size = w.heap.size + 1 := World.size_alloc _ _
  have e2 : (lawCells w).toList = Tryd.zeroCells31.toList.set 64 (Value.slice (some { block := w.heap.size, off := 0 }) 2 2) := by unfold lawCells; simp
  rw [e1, e2] at h
  exact h
theorem lawSt (w0 w : World) (s : ByteArray) (hw : Ready w) (hb : Below w0.heap.size w0 w) : St (w.heap.size + 1) (lawCells w) (lawEx s) w0 ((w.alloc (lawRow s)).alloc (.cells (lawCells w) 31)) := by
  have e1 : (w.alloc (lawRow s)).heap.size = w.heap.size + 1 := World.size_alloc _ _
  have hr : RowAt (w.alloc (lawRow s)) (some ⟨w.heap.size, 0, none⟩) (pairCells (lawEx s)) := rowAt_new w (lawEx s) _
  refine ⟨(hw.alloc _).alloc _, (changeX_set _ _ (lawEx s) 2 (by simp [lawEx]) hr).below (below_alloc (Below.refl _ _) _), ?_, below_alloc (below_alloc hb _) _⟩
  rw [← e1]; exact heap_alloc_new _ _
end Go.Proofs.YtdekdejnoccajaaDoor
