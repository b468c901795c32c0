/-
  slices.AppendSeq over an iterator that gives ids: one round.

  slices.AppendSeq(nil, seq) and slices.Collect(seq) for an iterator that gives strings. (The proofs follow the kit's own contract of the iterator idiom, at this seat's numbers.)

  A block of the world taken up into the heap.

  All orders of a list.

  What Collect over the keys of a map gives: the parts that name no map.

  slices.Collect over maps.Keys of another map with texts for keys.

  slices.Collect over maps.Keys of a map with texts for keys from which something may have been taken away.

  A call at given plain arguments that always answers the same, as a summary.

  What every row of this kind asks: a composed value's cells; a start for the witness at a world that lays the listed variables by a function.
-/
import Derived.Test.YtmcclkdkbedpmabGreatDoorJ5
import Derived.Maps.AppendAt
import Derived.Test.YtmcclkdkbedpmabGreatDoorJ6
import Derived.Maps.RangeRun
import Derived.RangeFuncGives
import Derived.Deep.WholeRow
import Derived.Laws.IdiomRangeMap
import Derived.Test.YtmcclkdkbedpmabGreatDoorChecked
import Derived.WalkKit
import Derived.ProofKit
import Derived.OpenShut
import Derived.LaidMore
import Derived.HandedShaped
import Derived.Stop.LaidErr
import Derived.Deep.DeepHandedRow
import Derived.Deep.DeepWitnessRowRef
import Derived.Lib.LaidTab
import Derived.ChangeMaps5
import Derived.Carry
import Derived.Lay
import Derived.Lib.SmallJoins
set_option linter.unusedSectionVars false
set_option linter.unusedSimpArgs false
set_option linter.unusedVariables false
namespace Go.Proofs.YtmcclkdkbedpmabGreatDoor
open Go Go.RowKit Go.Shelf Go.Maps

attribute [local go_sem] Oper.semAt_some


def apAssign : Code := (Code.region 2 #[{ dst := some 5, op := Op.alloc 28, type := 0, pos := "iter.go:51", after := #[], guard := none }, { dst := none, op := Op.store 28 (Operand.tmp 5) (Operand.tmp 7), type := 0, pos := "iter.go:51", after := #[{ on := 0, ground := Ground.data }, { on := 0, ground := Ground.phase }], guard := none }] false)
def apBody : Code := (Code.block 1 (Code.region 3 #[{ dst := some 8, op := Op.load 26 (Operand.tmp 2), type := 26, pos := "iter.go:52", after := #[], guard := none }, { dst := some 9, op := Op.load 28 (Operand.tmp 5), type := 28, pos := "iter.go:52", after := #[], guard := none }, { dst := some 10, op := Op.buildSlice 26 1 #[(0, Operand.tmp 9)], type := 26, pos := "iter.go:52", after := #[{ on := 1, ground := Ground.data }], guard := none }, { dst := some 11, op := Op.call { callee := Callee.builtin Builtin.append, args := #[Operand.tmp 8, Operand.tmp 10], argTypes := #[26, 26] }, type := 26, pos := "iter.go:52", after := #[{ on := 0, ground := Ground.data }, { on := 2, ground := Ground.data }], guard := none }, { dst := none, op := Op.store 26 (Operand.tmp 2) (Operand.tmp 11), type := 0, pos := "iter.go:52", after := #[{ on := 3, ground := Ground.data }, { on := 3, ground := Ground.chain }, { on := 0, ground := Ground.phase }, { on := 1, ground := Ground.phase }, { on := 2, ground := Ground.phase }, { on := 3, ground := Ground.phase }], guard := none }] false))
/-- The loop's record. -/
def apRec (fn : FuncId) (sv : Value) (Bs D : Nat) (st : LoopState) (pend : Option Code) : Loop :=
  { state := st, pending := pend, fn, tmps := #[.slice none 0 0, sv, .pointer (some ⟨Bs, 0, none⟩), undef, .slice none 0 0, undef, sv, undef, undef, undef, undef, undef, undef], params := #[7], assign := apAssign, body := apBody, defers := D }

/-- A key's cells. -/
def keyCells (k : IdK) : List Value := k.kc.toList
/-- Between two rounds: the box holds a slice that owns what has come so far. -/
structure ApAt (w0 : World) (fn : FuncId) (sv : Value) (Bs l D : Nat) (ss : List IdK) (W : World) : Prop where
  box : ∃ v, W.heap[Bs]? = some (.cells #[v] 26 (0, 0)) ∧ W.ownsRow w0.heap.size 28 20 v ss.length (ss.flatMap keyCells) ∧ (v = .slice none 0 0 ↔ ss = [])
  L : W.heap[l]? = some (.loop (apRec fn sv Bs D .ready none))
  K : W.heap[D]? = some (.deferred (some []))
  below : Below w0.heap.size w0 W

theorem ownsRow_abides_q {W W' : World} {row : Option Nat} {base : Nat} {e : TypeId} {size : Nat} {v : Value} {k : Nat} {xs : List Value} (h : W.ownsRow base e size v k xs) (hg : W.grownBy W' row)
    (hrow : ∀ r, row = some r → ∃ o : Obj, W.heap[r]? = some o ∧ o.isWalk = true) : W'.ownsRow base e size v k xs := by
  refine h.kept hg ?_
  rcases h.2 with ⟨rfl, _⟩ | ⟨g, cap, cur, rfl, _, hgb, _⟩
  · exact .inl rfl
  · refine .inr fun e' => ?_
    obtain ⟨o, ho, hw⟩ := hrow g (by simpa [Value.ownBlock] using e'.symm)
    rw [hgb] at ho; cases ho; cases hw

theorem ap_abides (w0 : World) (fn : FuncId) (sv : Value) (Bs l D B : Nat) (hB : w0.heap.size ≤ B) : AbidesFrom B (ApAt w0 fn sv Bs l D) := fun s W W' row h hg hrow => by
  have hrow' : ∀ r, row = some r → ∃ o : Obj, W.heap[r]? = some o ∧ o.isWalk = true := fun r e => (hrow r e).2
  obtain ⟨v, hv, hr, hn⟩ := h.box
  exact ⟨⟨v, (grownBy_keeps hg hrow' hv rfl).trans hv, ownsRow_abides_q hr hg hrow', hn⟩, (grownBy_keeps hg hrow' h.L rfl).trans h.L, (grownBy_keeps hg hrow' h.K rfl).trans h.K,
    h.below.grown hg h.below.size (fun k e => Nat.le_trans hB (hrow k e).1)⟩

theorem grownBy_setCell0_q (W : World) (b : Nat) (v : Value) : W.grownBy (W.setCell ⟨b, 0, none⟩ v) (some b) :=
  ⟨rfl, rfl, rfl, (KeepsWalks.setCell W _ v).size, fun k _ hk => Below.heap_setCell _ _ _ k (fun e => hk (by rw [e]))⟩
theorem ownsRow_ne_q {W : World} {base : Nat} {e : TypeId} {size : Nat} {v : Value} {k : Nat} {xs : List Value} (h : W.ownsRow base e size v k xs) {j : Nat} {o : Obj} (hj : W.heap[j]? = some o) (hno : ∀ cur, o ≠ .cells cur e (0, 0)) :
    v.ownBlock = none ∨ v.ownBlock ≠ some j := by
  rcases h.2 with ⟨rfl, _⟩ | ⟨g, cap, cur, rfl, _, hgb, _⟩
  · exact .inl rfl
  · refine .inr fun e' => ?_
    have : g = j := by simpa [Value.ownBlock] using e'
    subst this; rw [hgb] at hj; cases hj; exact hno cur rfl
theorem cell_of_box_q {W : World} {B : Nat} {v : Value} {t : TypeId} (h : W.heap[B]? = some (.cells #[v] t (0, 0))) : W.cell? ⟨B, 0, none⟩ = some v ∧ W.frozen? ⟨B, 0, none⟩ = false := by
  constructor <;> simp [World.cell?, World.frozen?, h]
theorem heap_setCell_box_q {W : World} {B : Nat} {v : Value} {t : TypeId} (v' : Value) (h : W.heap[B]? = some (.cells #[v] t (0, 0))) : (W.setCell ⟨B, 0, none⟩ v').heap[B]? = some (.cells #[v'] t (0, 0)) := by
  obtain ⟨hlt, hk⟩ := Array.getElem?_eq_some_iff.1 h
  show (W.heap.modify B _)[B]? = _
  rw [Array.getElem?_eq_getElem (by rw [Array.size_modify]; exact hlt), Array.getElem_modify_self, hk]
  rfl

theorem exec_load_at {w : World} {c : Array Value} {b : Nat} {p : Operand} {ρ : Operand → Value} (hc : c.size = 20) (hb : w.heap[b]? = some (.cells c 28 (0, 0)))
    (hp : ρ p = .pointer (some ⟨b, 0, none⟩)) (d : Option Tmp) (ty : TypeId) (pos : String) (af : Array Edge) :
    (execOp ρ ⟨d, .load 28 p, ty, pos, af, none⟩).run Tryz.prog w = .ok (.value (.agg c)) w := by
  have := run_loadVar_row (P := Tryz.prog) w _ 28 28 c (0, 0) _ hb Tryz.underlying28 rfl (infoIdSize hc)
  simp only [execOp, hp, Instr.loadAt, Instr.sureAddr, Sem.run_bind, Sem.run_pure, Result.andThen, this]
theorem ownsRow_not_walk_q {W : World} {base : Nat} {e : TypeId} {size : Nat} {v : Value} {k : Nat} {xs : List Value} (h : W.ownsRow base e size v k xs) : ∀ (j : Nat) (o : Obj), v.ownBlock = some j → W.heap[j]? = some o → o.isWalk = false := by
  intro j o hj ho
  rcases h.2 with ⟨rfl, _⟩ | ⟨g, cap, cur, rfl, _, hgb, _⟩
  · simp [Value.ownBlock] at hj
  · have : g = j := by simpa [Value.ownBlock] using hj
    subst this; rw [hgb] at ho; cases ho; rfl

set_option maxRecDepth 100000 in
set_option maxHeartbeats 2000000 in
theorem apYield (F : Fence) (m : Nat) (w0 : World) (fn : FuncId) (hfn : F.fn fn) (sv : Value) (Bs l D : Nat) (hBl : Bs ≠ l) (hDl : D ≠ l) (hDB : D ≠ Bs) (h0B : w0.heap.size ≤ Bs) (h0l : w0.heap.size ≤ l)
    (N : Nat) (hN : N ≤ maxLen) (hNb : N * 20 ≤ 140737488355328) (ss : List IdK) (x : IdK) (W : World) (h : ApAt w0 fn sv Bs l D ss W) (hlen : ss.length < N) :
    YieldAt F m Tryz.prog l #[.agg x.kc] W fun e W' => e = .returned (.bool true) ∧ ApAt w0 fn sv Bs l D (ss ++ [x]) W' ∧ KeepsWalks W W' := by
  obtain ⟨i0, hi, hz0, hz1, hz2⟩ := info_parts infoId
  obtain ⟨v, hv, hrow, _⟩ := h.box
  obtain ⟨kc, hkc, hk1⟩ := x
  have hkx : keyCells ⟨kc, hkc, hk1⟩ = kc.toList := rfl
  refine ⟨fn, #[.slice none 0 0, sv, .pointer (some ⟨Bs, 0, none⟩), undef, .slice none 0 0, undef, sv, .agg kc, undef, undef, undef, undef, undef], apAssign, apBody, by simpa [apRec] using run_yield (P := Tryz.prog) (args := #[.agg kc]) h.L rfl, roundIn_of_wpIn hfn ?_⟩
  have hl : l < W.heap.size := (Array.getElem?_eq_some_iff.1 h.L).1
  have hBlt : Bs < W.heap.size := (Array.getElem?_eq_some_iff.1 hv).1
  have hDlt : D < W.heap.size := (Array.getElem?_eq_some_iff.1 h.K).1
  obtain ⟨W2, hW2⟩ : ∃ W2, W.alloc (.cells kc 28) = W2 := ⟨_, rfl⟩
  have hk2 : KeepsWalks W W2 := by rw [← hW2]; exact KeepsWalks.alloc _ _
  have hv2 : W2.heap[Bs]? = some (.cells #[v] 26 (0, 0)) := by rw [← hW2]; exact (Below.heap_alloc _ _ Bs hBlt).trans hv
  have hK2 : W2.heap[D]? = some (.deferred (some [])) := by rw [← hW2]; exact (Below.heap_alloc _ _ D hDlt).trans h.K
  have hL2 : W2.heap[l]? = some (.loop (apRec fn sv Bs D .ready none)) := by rw [← hW2]; exact (Below.heap_alloc _ _ l hl).trans h.L
  have hrow2 : W2.ownsRow w0.heap.size 28 20 v ss.length (ss.flatMap keyCells) := by rw [← hW2]; exact hrow.alloc _
  have hb2 : Below w0.heap.size w0 W2 := by rw [← hW2]; exact h.below.alloc h.below.size _
  have hs2 : W2.heap.size = W.heap.size + 1 := by rw [← hW2]; simp
  have hr2 : W2.heap[W.heap.size]? = some (.cells kc 28 (0, 0)) := by rw [← hW2]; exact World.alloc_heap_new W _
  have hbr := run_beginRound (P := Tryz.prog) hL2 rfl
  obtain ⟨W3, hW3⟩ : ∃ W3, W2.putObj l (.loop { apRec fn sv Bs D .ready none with state := .busy }) = W3 := ⟨_, rfl⟩
  rw [hW3] at hbr
  have hg3 : W2.grownBy W3 (some l) := by rw [← hW3]; exact grownBy_putObj' _ _ _
  have hk3 : KeepsWalks W2 W3 := by rw [← hW3]; exact KeepsWalks.putObj _ hL2 rfl
  have hl2 : l < W2.heap.size := (Array.getElem?_eq_some_iff.1 hL2).1
  have hv3 : W3.heap[Bs]? = some (.cells #[v] 26 (0, 0)) := by rw [← hW3]; exact (World.putObj_heap_other hBl).trans hv2
  have hK3 : W3.heap[D]? = some (.deferred (some [])) := by rw [← hW3]; exact (World.putObj_heap_other hDl).trans hK2
  have hL3 : W3.heap[l]? = some (.loop { apRec fn sv Bs D .ready none with state := .busy }) := by rw [← hW3]; exact World.putObj_heap_same hl2
  have hr3 : W3.heap[W.heap.size]? = some (.cells kc 28 (0, 0)) := by rw [← hW3]; exact (World.putObj_heap_other (by omega)).trans hr2
  have hrow3 : W3.ownsRow w0.heap.size 28 20 v ss.length (ss.flatMap keyCells) := hrow2.kept hg3 (ownsRow_ne_q hrow2 hL2 (fun cur e => by cases e))
  have hb3 : Below w0.heap.size w0 W3 := hb2.grown hg3 hb2.size (fun k e => by cases e; exact h0l)
  have hs3 : W3.heap.size = W.heap.size + 1 := by rw [← hW3, ← hs2]; simp
  obtain ⟨hc3, hf3⟩ := cell_of_box_q hv3
  have ne_of : ∀ {j : Nat} {o : Obj}, W3.heap[j]? = some o → (∀ cur, o ≠ .cells cur 28 (0, 0)) → some j ≠ v.ownBlock := fun hj hno => by
    rcases ownsRow_ne_q hrow3 hj hno with e | e
    · rw [e]; simp
    · exact fun e' => e e'.symm
  have hnews : ∀ j u, kc.toList[j]? = some u → (W3.alloc (.cells kc 28)).cell? ((⟨W3.heap.size, 0, none⟩ : Addr).add j) = some u := fun j u hu => by
    have hadd : (⟨W3.heap.size, 0, none⟩ : Addr).add j = ⟨W3.heap.size, j, none⟩ := by unfold Addr.add; split <;> simp_all
    have hnew := World.alloc_heap_new W3 (.cells kc 28)
    rw [hadd, cell_of_row _ _ j kc 28 (0, 0) hnew]
    simpa using hu
  have hone : ∀ u ∈ kc.toList, u.oneCell' = true := fun u hu => by
    have := Array.all_eq_true'.1 hk1 u (Array.mem_toList_iff.1 hu)
    exact this
  unfold apAssign
  gi_wp2_with (first
    | (refine wpListIn_op_val rfl (fun c h => by cases h) (fun c h => by cases h) (exec_alloc_row (zeroId _) _ _ _ _ _) ?_)
    | (refine wpListIn_op_skip rfl (fun c h => by cases h) (fun c h => by cases h) (exec_store_row (z := Array.replicate 20 (.int .u8 0)) (c := kc) (infoIdSize hkc) (by rw [hkc, Array.size_replicate]) hk1 rfl rfl _ _ _ _) ?_; rw [hW2])
    | (rw [Oper.semAt_eq _ _ _ (fun c h => by cases h)]; go_simp; try go_bits))
  unfold apBody
  gi_wp2_with (first
    | (refine wpListIn_op_val rfl (fun c h => by cases h) (fun c h => by cases h) (exec_load_at hkc hr3 rfl _ _ _ _) ?_)
    | (refine wpListIn_op_val rfl (fun c h => by cases h) (fun c h => by cases h) (exec_buildSlice_id hkc rfl _ _ _ _) ?_)
    | (gi_at_builtin; refine wpListIn_append_own _ rfl _ _ 26 rfl w0.heap.size 28 i0 (.agg (Array.replicate 20 (.int .u8 0))) 20 20 Tryz.underlying26 hi hz0 hz1 hz2 rfl (by decide) v ss.length (ss.flatMap keyCells) rfl (hrow3.alloc _) ⟨W3.heap.size, 0, none⟩ 1 1 kc.toList rfl (by simp [hkc]) hnews hone (by omega) (by omega) (by have := hb3.size; simp; omega) ?_; intro v' w4 hown' hg4 hnil4
       have hv4 : w4.heap[Bs]? = some (.cells #[v] 26 (0, 0)) := (hg4.block Bs (by simp; omega) (ne_of hv3 (fun cur e => by cases e))).trans ((Below.heap_alloc _ _ Bs (by omega)).trans hv3)
       obtain ⟨hc4, hf4⟩ := cell_of_box_q hv4
       obtain ⟨g', cap', cur', rfl, hbase', hgb', hr1, hr2, hr3, hr4⟩ : ∃ g' cap' cur', v' = .slice (some ⟨g', 0, none⟩) (ss.length + 1) cap' ∧ w0.heap.size ≤ g' ∧ w4.heap[g']? = some (.cells cur' 28 (0, 0)) ∧ ss.length + 1 ≤ cap' ∧ cap' ≤ maxLen ∧ cur'.size = cap' * 20 ∧ cur'.toList.take ((ss.length + 1) * 20) = ss.flatMap keyCells ++ kc.toList := by
         rcases hown'.2 with ⟨_, h0⟩ | h'
         · exact absurd h0 (by omega)
         · exact h'
       go_frame)
    | (rw [Oper.semAt_eq _ _ _ (fun c h => by cases h)]; go_simp; try go_bits))
  have hg4' : (W3.alloc (.cells kc 28)).grownBy w4 v.ownBlock := hg4
  have hL4 : w4.heap[l]? = some (.loop { apRec fn sv Bs D .ready none with state := .busy }) := (hg4'.block l (by simp; omega) (ne_of hL3 (fun cur e => by cases e))).trans ((Below.heap_alloc _ _ l (by omega)).trans hL3)
  have hK4 : w4.heap[D]? = some (.deferred (some [])) := (hg4'.block D (by simp; omega) (ne_of hK3 (fun cur e => by cases e))).trans ((Below.heap_alloc _ _ D (by omega)).trans hK3)
  obtain ⟨w5, hw5⟩ : ∃ w5, w4.setCell ⟨Bs, 0, none⟩ (.slice (some ⟨g', 0, none⟩) (ss.length + 1) cap') = w5 := ⟨_, rfl⟩
  rw [hw5]
  have hg5 : w4.grownBy w5 (some Bs) := by rw [← hw5]; exact grownBy_setCell0_q _ _ _
  have hv5 : w5.heap[Bs]? = some (.cells #[.slice (some ⟨g', 0, none⟩) (ss.length + 1) cap'] 26 (0, 0)) := by rw [← hw5]; exact heap_setCell_box_q _ hv4
  have hL5 : w5.heap[l]? = some (.loop { apRec fn sv Bs D .ready none with state := .busy }) := (hg5.block l (Array.getElem?_eq_some_iff.1 hL4).1 (fun e => hBl (by cases e; rfl))).trans hL4
  have hK5 : w5.heap[D]? = some (.deferred (some [])) := (hg5.block D (Array.getElem?_eq_some_iff.1 hK4).1 (fun e => hDB (by cases e; rfl))).trans hK4
  have hrow5 := hown'.kept hg5 (ownsRow_ne_q hown' hv4 (fun cur e => by cases e))
  have hl5 : l < w5.heap.size := (Array.getElem?_eq_some_iff.1 hL5).1
  have hb4 : Below w0.heap.size w0 w4 := (hb3.alloc hb3.size _).grown hg4' (by have := hb3.size; simp; omega) (fun k e => (hrow3.lt k e).1)
  have hb5 : Below w0.heap.size w0 w5 := hb4.grown hg5 hb4.size (fun k e => by cases e; exact h0B)
  have hk5 : KeepsWalks W w5 := ((((hk2.trans hk3).trans (KeepsWalks.alloc _ _))).trans (KeepsWalks.of_grownBy hg4' (ownsRow_not_walk_q (hrow3.alloc _)))).trans (by rw [← hw5]; exact KeepsWalks.setCell _ _ _)
  clear hw5
  refine ⟨_, _, run_endRound none hL5, rfl, ⟨⟨_, (World.putObj_heap_other hBl).trans hv5, ?_, by simp⟩, World.putObj_heap_same hl5, (World.putObj_heap_other hDl).trans hK5, hb5.grown (grownBy_putObj' _ _ _) hb5.size (fun k e => by cases e; exact h0l)⟩, hk5.trans (KeepsWalks.putObj _ hL5 rfl)⟩
  have := hrow5.kept (grownBy_putObj' w5 l (.loop { { apRec fn sv Bs D .ready none with state := .busy } with state := if (none : Option Code).isNone then .ready else .done, pending := none })) (ownsRow_ne_q hrow5 hL5 (fun cur e => by cases e))
  rw [List.flatMap_append, List.length_append]
  simpa [hkx] using this
end Go.Proofs.YtmcclkdkbedpmabGreatDoor

namespace Go.Proofs.YtmcclkdkbedpmabGreatDoor
open Go Go.RowKit Go.Shelf Go.Maps

attribute [local go_sem] Oper.semAt_some

theorem infoStr : (Tryz.prog.info? 9).map (fun i => (i.zero, i.size, i.bytes)) = some (some (.string ⟨#[]⟩), 1, 16) := by kernel_rfl

def apAssignS : Code := (Code.region 2 #[{ dst := some 5, op := Op.assign (Operand.tmp 7), type := 9, pos := "iter.go:51", after := #[], guard := none }] false)
def apBodyS : Code := (Code.block 1 (Code.region 3 #[{ dst := some 8, op := Op.load 97 (Operand.tmp 2), type := 97, pos := "iter.go:52", after := #[], guard := none }, { dst := some 9, op := Op.move (Operand.tmp 5), type := 9, pos := "iter.go:52", after := #[], guard := none }, { dst := some 10, op := Op.buildSlice 97 1 #[(0, Operand.tmp 9)], type := 97, pos := "iter.go:52", after := #[{ on := 1, ground := Ground.data }], guard := none }, { dst := some 11, op := Op.call { callee := Callee.builtin Builtin.append, args := #[Operand.tmp 8, Operand.tmp 10], argTypes := #[97, 97] }, type := 97, pos := "iter.go:52", after := #[{ on := 0, ground := Ground.data }, { on := 2, ground := Ground.data }], guard := none }, { dst := none, op := Op.store 97 (Operand.tmp 2) (Operand.tmp 11), type := 0, pos := "iter.go:52", after := #[{ on := 3, ground := Ground.data }, { on := 3, ground := Ground.chain }, { on := 0, ground := Ground.phase }, { on := 1, ground := Ground.phase }, { on := 2, ground := Ground.phase }, { on := 3, ground := Ground.phase }], guard := none }] false))
def apRecS (fn : FuncId) (sv : Value) (Bs D : Nat) (st : LoopState) (pend : Option Code) : Loop :=
  { state := st, pending := pend, fn, tmps := #[.slice none 0 0, sv, .pointer (some ⟨Bs, 0, none⟩), undef, .slice none 0 0, undef, sv, undef, undef, undef, undef, undef, undef], params := #[7], assign := apAssignS, body := apBodyS, defers := D }

/-- Between two rounds: the box holds a slice that owns what has come so far. -/
structure ApAtS (w0 : World) (fn : FuncId) (sv : Value) (Bs l D : Nat) (ss : List ByteArray) (W : World) : Prop where
  box : ∃ v, W.heap[Bs]? = some (.cells #[v] 97 (0, 0)) ∧ W.ownsRow w0.heap.size 9 1 v ss.length (ss.map Value.string) ∧ (v = .slice none 0 0 ↔ ss = [])
  L : W.heap[l]? = some (.loop (apRecS fn sv Bs D .ready none))
  K : W.heap[D]? = some (.deferred (some []))
  below : Below w0.heap.size w0 W

theorem apS_abides (w0 : World) (fn : FuncId) (sv : Value) (Bs l D B : Nat) (hB : w0.heap.size ≤ B) : AbidesFrom B (ApAtS w0 fn sv Bs l D) := fun s W W' row h hg hrow => by
  have hrow' : ∀ r, row = some r → ∃ o : Obj, W.heap[r]? = some o ∧ o.isWalk = true := fun r e => (hrow r e).2
  obtain ⟨v, hv, hr, hn⟩ := h.box
  exact ⟨⟨v, (grownBy_keeps hg hrow' hv rfl).trans hv, ownsRow_abides_q hr hg hrow', hn⟩, (grownBy_keeps hg hrow' h.L rfl).trans h.L, (grownBy_keeps hg hrow' h.K rfl).trans h.K,
    h.below.grown hg h.below.size (fun k e => Nat.le_trans hB (hrow k e).1)⟩

set_option maxRecDepth 100000 in
set_option maxHeartbeats 2000000 in
theorem apYieldS (F : Fence) (m : Nat) (w0 : World) (fn : FuncId) (hfn : F.fn fn) (sv : Value) (Bs l D : Nat) (hBl : Bs ≠ l) (hDl : D ≠ l) (hDB : D ≠ Bs) (h0B : w0.heap.size ≤ Bs) (h0l : w0.heap.size ≤ l)
    (N : Nat) (hN : N ≤ maxLen) (hNb : N * 16 ≤ 140737488355328) (ss : List ByteArray) (x : ByteArray) (W : World) (h : ApAtS w0 fn sv Bs l D ss W) (hlen : ss.length < N) :
    YieldAt F m Tryz.prog l #[Value.string x] W fun e W' => e = .returned (.bool true) ∧ ApAtS w0 fn sv Bs l D (ss ++ [x]) W' ∧ KeepsWalks W W' := by
  obtain ⟨i0, hi, hz0, hz1, hz2⟩ := info_parts infoStr
  obtain ⟨v, hv, hrow, _⟩ := h.box
  refine ⟨fn, #[.slice none 0 0, sv, .pointer (some ⟨Bs, 0, none⟩), undef, .slice none 0 0, undef, sv, Value.string x, undef, undef, undef, undef, undef], apAssignS, apBodyS, by simpa [apRecS] using run_yield (P := Tryz.prog) (args := #[Value.string x]) h.L rfl, roundIn_of_wpIn hfn ?_⟩
  have hl : l < W.heap.size := (Array.getElem?_eq_some_iff.1 h.L).1
  have hbr := run_beginRound (P := Tryz.prog) h.L rfl
  obtain ⟨W2, hW2⟩ : ∃ W2, W.putObj l (.loop { apRecS fn sv Bs D .ready none with state := .busy }) = W2 := ⟨_, rfl⟩
  rw [hW2] at hbr
  have hg2 : W.grownBy W2 (some l) := by rw [← hW2]; exact grownBy_putObj' _ _ _
  have hk2 : KeepsWalks W W2 := by rw [← hW2]; exact KeepsWalks.putObj _ h.L rfl
  have hv2 : W2.heap[Bs]? = some (.cells #[v] 97 (0, 0)) := by rw [← hW2]; exact (World.putObj_heap_other hBl).trans hv
  have hK2 : W2.heap[D]? = some (.deferred (some [])) := by rw [← hW2]; exact (World.putObj_heap_other hDl).trans h.K
  have hL2 : W2.heap[l]? = some (.loop { apRecS fn sv Bs D .ready none with state := .busy }) := by rw [← hW2]; exact World.putObj_heap_same hl
  have hrow2 : W2.ownsRow w0.heap.size 9 1 v ss.length (ss.map Value.string) := hrow.kept hg2 (ownsRow_ne_q hrow h.L (fun cur e => by first | cases e | exact absurd (Obj.cells.inj e).2.1 (by decide)))
  have hb2 : Below w0.heap.size w0 W2 := h.below.grown hg2 h.below.size (fun k e => by cases e; exact h0l)
  obtain ⟨hc2, hf2⟩ := cell_of_box_q hv2
  have hBlt : Bs < W2.heap.size := (Array.getElem?_eq_some_iff.1 hv2).1
  have hl2 : l < W2.heap.size := (Array.getElem?_eq_some_iff.1 hL2).1
  have hDlt : D < W2.heap.size := (Array.getElem?_eq_some_iff.1 hK2).1
  have ne_of : ∀ {j : Nat} {o : Obj}, W2.heap[j]? = some o → (∀ cur, o ≠ .cells cur 9 (0, 0)) → some j ≠ v.ownBlock := fun hj hno => by
    rcases ownsRow_ne_q hrow2 hj hno with e | e
    · rw [e]; simp
    · exact fun e' => e e'.symm
  clear hW2
  unfold apAssignS
  gi_wp2_with (rw [Oper.semAt_eq _ _ _ (fun c h => by cases h)]; go_simp; try go_bits)
  unfold apBodyS
  gi_wp2_with (first
    | (gi_at_builtin; refine wpListIn_append_own _ rfl _ _ 97 rfl w0.heap.size 9 i0 (.string ⟨#[]⟩) 1 16 Tryz.underlying97 hi hz0 hz1 hz2 rfl (by decide) _ _ _ rfl (hrow2.alloc _) ⟨W2.heap.size, 0, none⟩ 1 1 [Value.string x] rfl rfl (cell_one_new _ _ _) (by simp [Value.oneCell']) (by omega) (by omega) (by have := hb2.size; simp; omega) ?_; intro v' w3 hown' hg3 hnil3
       have hv3 : w3.heap[Bs]? = some (.cells #[v] 97 (0, 0)) := (hg3.block Bs (by simp; omega) (ne_of hv2 (fun cur e => by first | cases e | exact absurd (Obj.cells.inj e).2.1 (by decide)))).trans ((Below.heap_alloc _ _ Bs hBlt).trans hv2)
       obtain ⟨hc3, hf3⟩ := cell_of_box_q hv3
       obtain ⟨g', cap', cur', rfl, hbase', hgb', hr1, hr2, hr3, hr4⟩ : ∃ g' cap' cur', v' = .slice (some ⟨g', 0, none⟩) (ss.length + 1) cap' ∧ w0.heap.size ≤ g' ∧ w3.heap[g']? = some (.cells cur' 9 (0, 0)) ∧ ss.length + 1 ≤ cap' ∧ cap' ≤ maxLen ∧ cur'.size = cap' * 1 ∧ cur'.toList.take ((ss.length + 1) * 1) = ss.map Value.string ++ [Value.string x] := by
         rcases hown'.2 with ⟨_, h0⟩ | h'
         · exact absurd h0 (by omega)
         · exact h'
       go_frame)
    | (rw [Oper.semAt_eq _ _ _ (fun c h => by cases h)]; go_simp; try go_bits))
  have hg3' : (W2.alloc (.cells #[Value.string x] 9)).grownBy w3 v.ownBlock := hg3
  have hL3 : w3.heap[l]? = some (.loop { apRecS fn sv Bs D .ready none with state := .busy }) := (hg3'.block l (by simp; omega) (ne_of hL2 (fun cur e => by first | cases e | exact absurd (Obj.cells.inj e).2.1 (by decide)))).trans ((Below.heap_alloc _ _ l hl2).trans hL2)
  have hK3 : w3.heap[D]? = some (.deferred (some [])) := (hg3'.block D (by simp; omega) (ne_of hK2 (fun cur e => by first | cases e | exact absurd (Obj.cells.inj e).2.1 (by decide)))).trans ((Below.heap_alloc _ _ D hDlt).trans hK2)
  obtain ⟨w4, hw4⟩ : ∃ w4, w3.setCell ⟨Bs, 0, none⟩ (.slice (some ⟨g', 0, none⟩) (ss.length + 1) cap') = w4 := ⟨_, rfl⟩
  rw [hw4]
  have hg4 : w3.grownBy w4 (some Bs) := by rw [← hw4]; exact grownBy_setCell0_q _ _ _
  have hv4 : w4.heap[Bs]? = some (.cells #[.slice (some ⟨g', 0, none⟩) (ss.length + 1) cap'] 97 (0, 0)) := by rw [← hw4]; exact heap_setCell_box_q _ hv3
  have hL4 : w4.heap[l]? = some (.loop { apRecS fn sv Bs D .ready none with state := .busy }) := (hg4.block l (Array.getElem?_eq_some_iff.1 hL3).1 (fun e => hBl (by cases e; rfl))).trans hL3
  have hK4 : w4.heap[D]? = some (.deferred (some [])) := (hg4.block D (Array.getElem?_eq_some_iff.1 hK3).1 (fun e => hDB (by cases e; rfl))).trans hK3
  have hrow4 := hown'.kept hg4 (ownsRow_ne_q hown' hv3 (fun cur e => by first | cases e | exact absurd (Obj.cells.inj e).2.1 (by decide)))
  have hl4 : l < w4.heap.size := (Array.getElem?_eq_some_iff.1 hL4).1
  have hb3 : Below w0.heap.size w0 w3 := (hb2.alloc hb2.size _).grown hg3' (by have := hb2.size; simp; omega) (fun k e => (hrow2.lt k e).1)
  have hb4 : Below w0.heap.size w0 w4 := hb3.grown hg4 hb3.size (fun k e => by cases e; exact h0B)
  have hk4 : KeepsWalks W w4 := ((hk2.trans (KeepsWalks.alloc _ _)).trans (KeepsWalks.of_grownBy hg3' (ownsRow_not_walk_q (hrow2.alloc _)))).trans (by rw [← hw4]; exact KeepsWalks.setCell _ _ _)
  clear hw4
  refine ⟨_, _, run_endRound none hL4, rfl, ⟨⟨_, (World.putObj_heap_other hBl).trans hv4, ?_, by simp⟩, World.putObj_heap_same hl4, (World.putObj_heap_other hDl).trans hK4, hb4.grown (grownBy_putObj' _ _ _) hb4.size (fun k e => by cases e; exact h0l)⟩, hk4.trans (KeepsWalks.putObj _ hL4 rfl)⟩
  have := hrow4.kept (grownBy_putObj' w4 l (.loop { { apRecS fn sv Bs D .ready none with state := .busy } with state := if (none : Option Code).isNone then .ready else .done, pending := none })) (ownsRow_ne_q hrow4 hL4 (fun cur e => by first | cases e | exact absurd (Obj.cells.inj e).2.1 (by decide)))
  simpa using this


set_option maxRecDepth 100000 in
set_option maxHeartbeats 2000000 in
theorem appendSeqS_in (F : Fence) (n : Nat) (h11 : F.fn 90) (hro : F.round = none) (hn : 2 ≤ n) (g : Nat) (lb : Array Value) (hFg : F.fn g) (eg : ∀ args w, (callFunc g args).run Tryz.prog w = .ok (.enter g args) w)
    (S : List ByteArray → Prop) (N : Nat) (hN : N ≤ maxLen) (hNb : N * 16 ≤ 140737488355328) (w : World) (hseq : SeqGives (α := ByteArray) F (n - 1) Tryz.prog g lb (fun s => Value.string s) S N w) :
    CallsIn F n Tryz.prog 90 #[.slice none 0 0, .func (.func g) #[] lb] w fun e w' => ∃ v ss, e = .returned v ∧ S ss ∧ w'.ownsRow w.heap.size 9 1 v ss.length (ss.map Value.string) ∧ (v = .slice none 0 0 ↔ ss = []) ∧ Below w.heap.size w w' := by
  have h1 : 1 ≤ n := by omega
  refine callsIn_of_wp_marks Tryz.func90 rfl h11 ?_ hro
  simp only [Tryz.ntmps90, List.size_toArray, List.length_cons, List.length_nil, Nat.reduceAdd, Nat.reduceSub, Array.replicate_succ, Array.replicate_zero, List.push_toArray, List.append_toArray, List.nil_append, List.cons_append]
  gi_wp2
  refine wpIn_rangeFunc ?_
  intro fn hfn
  rw [hro]
  obtain ⟨W0, hW0⟩ : ∃ W0, w.alloc (.cells #[.slice none 0 0] 97) = W0 := ⟨_, rfl⟩
  have hs0 : W0.heap.size = w.heap.size + 1 := by rw [← hW0]; simp
  have hv0 : W0.heap[w.heap.size]? = some (.cells #[.slice none 0 0] 97 (0, 0)) := by rw [← hW0]; exact World.alloc_heap_new w _
  have hb0 : Below w.heap.size w W0 := by rw [← hW0]; exact (Below.refl _ w).alloc (Nat.le_refl _) _
  rw [hW0]
  obtain ⟨W1, hW1⟩ : ∃ W1, (W0.alloc (.deferred (some []))).alloc (.loop (apRecS fn (.func (.func g) #[] lb) w.heap.size W0.heap.size .ready none)) = W1 := ⟨_, rfl⟩
  have hold : ∀ k, k < W0.heap.size → W1.heap[k]? = W0.heap[k]? := fun k hk => by
    rw [← hW1]; exact (Below.heap_alloc _ _ k (by simp; omega)).trans (Below.heap_alloc _ _ k hk)
  have hb1 : Below w.heap.size w W1 := by rw [← hW1]; exact (hb0.alloc hb0.size _).alloc (by have := hb0.size; simp; omega) _
  have hs1 : W1.heap.size = W0.heap.size + 2 := by rw [← hW1]; simp
  have hM : ApAtS w fn (.func (.func g) #[] lb) w.heap.size (W0.heap.size + 1) W0.heap.size [] W1 :=
    ⟨⟨_, (hold w.heap.size (by omega)).trans hv0, ⟨rfl, .inl ⟨rfl, rfl⟩⟩, by simp⟩,
     by rw [← hW1]; have := World.alloc_heap_new (W0.alloc (.deferred (some []))) (.loop (apRecS fn (.func (.func g) #[] lb) w.heap.size W0.heap.size .ready none)); rwa [World.size_alloc] at this,
     by rw [← hW1]; exact (Below.heap_alloc _ _ _ (by simp)).trans (World.alloc_heap_new W0 _), hb1⟩
  refine ⟨W0.heap.size + 1, [{ target := .collected W0.heap.size, args := #[] }], W1, { target := .fn (.func g) lb, args := #[.func (.yield (W0.heap.size + 1)) #[] #[]] }, W1, g,
    #[.func (.yield (W0.heap.size + 1)) #[] #[]] ++ lb, W1, ?_, ?_, ?_, ?_, fun _ => h1, ?_⟩
  · rw [← hW1]; exact run_enterLoop_outer _ _ _ _ _
  · simp [resolve, go_sem]
  · intro f' hf'; simp [Target.leads] at hf'; subst hf'; exact hFg
  · simp [invoke, go_sem, eg]
  · refine (hseq (W0.heap.size + 1) (ApAtS w fn (.func (.func g) #[] lb) w.heap.size (W0.heap.size + 1) W0.heap.size) W1 hb1 (apS_abides _ _ _ _ _ _ _ hb1.size)
      (fun pre x W hJ hl => apYieldS F (n - 1 - 1) w fn hfn _ w.heap.size (W0.heap.size + 1) W0.heap.size (by omega) (by omega) (by omega) (Nat.le_refl _) (by omega) N hN hNb pre x W hJ hl) hM).mono ?_
    rintro e W2 ⟨⟨v0, rfl⟩, ss, hS, h2⟩
    obtain ⟨v, hv, hrow, hnil⟩ := h2.box
    have hend := run_endLoop (P := Tryz.prog) h2.L (by simp [apRecS])
    obtain ⟨W3, hW3⟩ : ∃ W3, W2.putObj (W0.heap.size + 1) (.loop { apRecS fn (.func (.func g) #[] lb) w.heap.size W0.heap.size .ready none with state := .exhausted }) = W3 := ⟨_, rfl⟩
    rw [hW3] at hend
    have hg3 : W2.grownBy W3 (some (W0.heap.size + 1)) := by rw [← hW3]; exact grownBy_putObj' _ _ _
    have hv3 : W3.heap[w.heap.size]? = some (.cells #[v] 97 (0, 0)) := by rw [← hW3]; exact (World.putObj_heap_other (by omega)).trans hv
    have hK3 : W3.heap[W0.heap.size]? = some (.deferred (some [])) := by rw [← hW3]; exact (World.putObj_heap_other (by omega)).trans h2.K
    have hrow3 := hrow.kept hg3 (ownsRow_ne_q hrow h2.L (fun cur e => by cases e))
    have hb3 : Below w.heap.size w W3 := h2.below.grown hg3 h2.below.size (fun k e => by cases e; omega)
    obtain ⟨hc3, hf3⟩ := cell_of_box_q hv3
    clear hW3
    refine ⟨none, W3, hend, ?_⟩
    gi_wp2
    rw [← hs0]
    refine ⟨by simp, .inl ⟨_, _, rfl, run_takeDeferred hK3, ?_⟩⟩
    refine ⟨_, results_tmp rfl _ _ _, v, ss, rfl, hS, ?_, hnil, hb3.grown (grownBy_putObj' _ _ _) hb3.size (fun k e => by cases e; omega)⟩
    have := hrow3.kept (grownBy_putObj' W3 W0.heap.size (.deferred none)) (ownsRow_ne_q hrow3 hK3 (fun cur e => by cases e))
    simpa using this

theorem collectS_in (F : Fence) (n : Nat) (h8 : F.fn 58) (h11 : F.fn 90) (hro : F.round = none) (hn : 3 ≤ n) (g : Nat) (lb : Array Value) (hFg : F.fn g) (eg : ∀ args w, (callFunc g args).run Tryz.prog w = .ok (.enter g args) w)
    (S : List ByteArray → Prop) (N : Nat) (hN : N ≤ maxLen) (hNb : N * 16 ≤ 140737488355328) (w : World) (hseq : SeqGives (α := ByteArray) F (n - 1 - 1) Tryz.prog g lb (fun s => Value.string s) S N w) :
    CallsIn F n Tryz.prog 58 #[.func (.func g) #[] lb] w fun e w' => ∃ v ss, e = .returned v ∧ S ss ∧ w'.ownsRow w.heap.size 9 1 v ss.length (ss.map Value.string) ∧ (v = .slice none 0 0 ↔ ss = []) ∧ Below w.heap.size w w' := by
  have h1 : 1 ≤ n := by omega
  refine callsIn_of_wp Tryz.func58 rfl h8 ?_ hro
  simp only [Tryz.ntmps58, List.size_toArray, List.length_cons, List.length_nil, Nat.reduceAdd, Nat.reduceSub, Array.replicate_succ, Array.replicate_zero, List.push_toArray, List.append_toArray, List.nil_append, List.cons_append]
  gi_wp2_with (gi_at_call 90; refine (appendSeqS_in F (n - 1) h11 hro (by omega) g lb hFg eg S N hN hNb _ hseq).mono ?_; rintro e w' ⟨v, ss, rfl, hS, hrow, hnil, hb⟩)
  gi_wp2
  refine bodyPost_ret (results_tmp rfl _ _ _) rfl ?_
  exact ⟨v, ss, rfl, hS, hrow, hnil, hb⟩

end Go.Proofs.YtmcclkdkbedpmabGreatDoor

namespace Go.Proofs.YtmcclkdkbedpmabGreatDoor
open Go Go.RowKit Go.Shelf Go.Maps
variable [Known]

section
variable {P : Program} {w0 : Base} {env : Env} {σ : SH} {w : World}
/-- A block that a call has made. -/
theorem Rel.adopt {w' : World} {so : SO} {g c : Nat} (h : Rel P w0 env σ w) (hb : Below w.heap.size w w') (hg : w.heap.size ≤ g) (ho : ORel P (env.push σ.next g c) w' g c so) : Rel P w0 (env.push σ.next g c) (σ.push so) w' := by
  have hnew := Env.new env σ.next g c
  have hle := h.le_push g c
  have h' := h.world hb
  have key : ∀ n y, (σ.push so).get n = some y → (n = σ.next ∧ y = so) ∨ (n ≠ σ.next ∧ σ.get n = some y) := fun n y hy => SH.get_push hy
  refine ⟨h.okay, h'.below, rfl, fun n hn => ?_, fun n y hy => ?_, fun n m y z x1 y1 hne hy hz hx1 hy1 => ?_⟩
  · have hn : σ.next + 1 ≤ n := hn
    rw [Env.push_ne _ _ _ (by omega)]; exact h.fresh n (by omega)
  · rcases key n y hy with ⟨rfl, rfl⟩ | ⟨hn, hy⟩
    · refine ⟨_, _, hnew, fun hk => ?_, ho⟩
      have := (h.below.block _ hk).1
      have := h.below.size
      omega
    · obtain ⟨b, c', h1, h2, h3⟩ := h'.obj n y hy
      exact ⟨b, c', hle.some n _ h1, h2, h3.mono hle rfl⟩
  · have old : ∀ k x, k ≠ σ.next → (∃ u, σ.get k = some u) → (env.push σ.next g c).blocks k = some x → x.1 < w.heap.size ∧ env.blocks k = some x := fun k x hk ⟨u, hu⟩ hx => by
      obtain ⟨b, c', h1, h2, h3⟩ := h.obj k u hu
      rw [Env.push_ne _ _ _ hk] at hx
      rw [hx] at h1; cases h1
      exact ⟨h3.lt, hx⟩
    rcases key n y hy with ⟨rfl, rfl⟩ | ⟨hn, hy'⟩ <;> rcases key m z hz with ⟨rfl, rfl⟩ | ⟨hm, hz'⟩
    · exact absurd rfl hne
    · have := (old m y1 hm ⟨_, hz'⟩ hy1).1
      rw [hnew] at hx1; cases hx1; simp only; omega
    · have := (old n x1 hn ⟨_, hy'⟩ hx1).1
      rw [hnew] at hy1; cases hy1; simp only; omega
    · exact h.apart n m y z x1 y1 hne hy' hz' (old n x1 hn ⟨_, hy'⟩ hx1).2 (old m y1 hm ⟨_, hz'⟩ hy1).2
end

end Go.Proofs.YtmcclkdkbedpmabGreatDoor

namespace Go.Proofs.YtmcclkdkbedpmabGreatDoor
open Go Go.RowKit

/-- All orders of a list. -/
def insertAll {α : Type} (x : α) : List α → List (List α)
  | [] => [[x]]
  | y :: r => (x :: y :: r) :: (insertAll x r).map (y :: ·)
def perms {α : Type} : List α → List (List α)
  | [] => [[]]
  | x :: r => (perms r).flatMap (insertAll x)
theorem mem_insertAll {α : Type} (x : α) : ∀ (a b : List α), a ++ x :: b ∈ insertAll x (a ++ b) := by
  intro a
  induction a with
  | nil => intro b; cases b <;> simp [insertAll]
  | cons y r ih => intro b; simp only [List.cons_append, insertAll]; exact List.mem_cons_of_mem _ (List.mem_map.2 ⟨_, ih b, rfl⟩)
theorem mem_perms {α : Type} : ∀ (l ys : List α), ys.Perm l → ys ∈ perms l := by
  intro l
  induction l with
  | nil => intro ys h; rw [List.Perm.eq_nil h]; simp [perms]
  | cons x r ih =>
    intro ys h
    have hx : x ∈ ys := h.mem_iff.2 (by simp)
    obtain ⟨a, b, rfl⟩ := List.append_of_mem hx
    have hp : (a ++ b).Perm r := (List.perm_middle.symm.trans h).cons_inv
    exact List.mem_flatMap.2 ⟨a ++ b, ih _ hp, mem_insertAll x a b⟩
end Go.Proofs.YtmcclkdkbedpmabGreatDoor

namespace Go.Proofs.YtmcclkdkbedpmabGreatDoor
open Go Go.RowKit Go.Shelf Go.Maps
variable [Known]

theorem perm_lift {α β : Type} (f : α → β) : ∀ (l : List α) (b : List β), b.Perm (l.map f) → ∃ l' : List α, l'.Perm l ∧ l'.map f = b := by
  intro l
  induction l with
  | nil => intro b h; rw [List.map_nil] at h; rw [List.Perm.eq_nil h]; exact ⟨[], List.Perm.refl _, rfl⟩
  | cons x r ih =>
    intro b h
    have hx : f x ∈ b := h.mem_iff.2 (by simp)
    obtain ⟨a, c, rfl⟩ := List.append_of_mem hx
    have hp : (a ++ c).Perm (r.map f) := (List.perm_middle.symm.trans h).cons_inv
    obtain ⟨l', h1, h2⟩ := ih _ hp
    obtain ⟨l1, l2, rfl, rfl, rfl⟩ := List.map_eq_append_iff.1 h2
    exact ⟨l1 ++ x :: l2, List.perm_middle.trans (h1.cons x), by simp⟩

theorem denL_flatten {env : Env} : ∀ (ps : List (List SV × List Value)), (∀ p ∈ ps, denL env p.1 = some p.2) → denL env (ps.map (·.1)).flatten = some (ps.flatMap (·.2)) := by
  intro ps
  induction ps with
  | nil => intro _; rfl
  | cons p r ih =>
    intro h
    rw [List.map_cons, List.flatten_cons, List.flatMap_cons]
    exact denL_append (h p (by simp)) (ih fun q hq => h q (by simp [hq]))

/-- What a new row of elements is. -/
noncomputable def rowOut (T : TypeId) (σ : SH) (n : Nat) (l : List SV) : SV × SH := @Nat.rec (fun _ => SV × SH) (.nils, σ) (fun _ _ => (.slice σ.next 0 n (.rest 0), σ.push (.cells l T false))) n
theorem rowOut_ok {b0 : Base} {env : Env} {σ : SH} {w w' : World} {T : TypeId} {sz n : Nat} {l : List SV} {v : Value} {xs : List Value} (hr : Rel Tryz.prog b0 env σ w) (hb : Below w.heap.size w w') (hrow : w'.ownsRow w.heap.size T sz v n xs) (hnil : v = .slice none 0 0 ↔ n = 0)
    (hd : denL env l = some xs) (hsz : Tryz.prog.cellsOf T = sz) : ∃ env', env.le env' ∧ Rel Tryz.prog b0 env' (rowOut T σ n l).2 w' ∧ den env' (rowOut T σ n l).1 = some v := by
  have hl := denL_length hd
  cases n with
  | zero =>
    rw [hnil.2 rfl]
    exact ⟨env, Env.le_refl _, hr.world hb, rfl⟩
  | succ n =>
    have hlen := hrow.1
    rcases hrow.2 with ⟨rfl, h0⟩ | ⟨g', cap', cur', rfl, hbase', hgb', hr1, hr2, hr3, hr4⟩
    · cases h0
    · have hnew := Env.new env σ.next g' cap'
      have hle := hr.le_push g' cap'
      have hO : ORel Tryz.prog (env.push σ.next g' cap') w' g' cap' (.cells l T false) :=
        ⟨cur', T, (0, 0), xs, hgb', thawed_zero _, denL_mono hle _ _ hd, by rw [← hl, hlen]; exact hr4, fun hx => absurd hx (by decide), fun _ => ⟨by rw [hsz]; exact hr3, hr2, rfl⟩⟩
      exact ⟨_, hle, hr.adopt hb hbase' hO, by simp only [rowOut, den, hnew, capOf]; rfl⟩

/-- What the map in a box holds. -/
theorem Rel.boxed {b0 : Base} {env : Env} {σ : SH} {w : World} (hr : Rel Tryz.prog b0 env σ w) {x m : Nat} {e1 : TypeId} {x1 : Bool} {es : List (SV × SV)} (hx : σ.get x = some (.cells [.map m] e1 x1)) (hm : σ.get m = some (.map es)) :
    ∃ bx cx bm ents ks, env.blocks x = some (bx, cx) ∧ bx < w.heap.size ∧ w.cell? ⟨bx, 0, none⟩ = some (.map (some bm)) ∧ w.heap[bm]? = some (.map ents ents.size) ∧ denL env (es.map (·.1)) = some ks ∧ ents.toList.map (·.key) = ks ∧ (∀ (i : Nat) (y : MapEntry), ents[i]? = some y → y.born = i) ∧ ents.size = es.length := by
  obtain ⟨bx, cx, hbx, _, hOx⟩ := hr.obj x _ hx
  obtain ⟨bm, cm, hbm, _, hOm⟩ := hr.obj m _ hm
  obtain ⟨cur, t, fr, us, hcur, hth, hus, htake, _⟩ := hOx
  obtain ⟨ents, clock, kvs, vvs, hents, hkv, hvv, hkeys, hvals, hclock, hborn⟩ := hOm
  obtain rfl : us = [.map (some bm)] := by
    obtain ⟨v, us', h1, h2, rfl⟩ := denL_cons hus
    obtain ⟨bm2, k2, h3, rfl⟩ := den_map h1
    rw [hbm] at h3; cases h3
    simp only [denL] at h2; cases h2; rfl
  subst hclock
  have hBm : bx < w.heap.size := (Array.getElem?_eq_some_iff.1 hcur).1
  refine ⟨bx, cx, bm, ents, kvs, hbx, hBm, ?_, hents, hkv, hkeys, hborn, ?_⟩
  · rw [cell_of_row w bx 0 cur t fr hcur]
    have := congrArg (·[0]?) htake
    simpa using this
  · have := denL_length hkv
    rw [← hkeys] at this
    simpa using this

/-- The string keys of a map. -/
def strKeysS : List (SV × SV) → Option (List (List Nat))
  | [] => some []
  | (.str l, _) :: r => match strKeysS r with
    | some m => some (l :: m)
    | none => none
  | _ :: _ => none
theorem strKeysS_ok {env : Env} : ∀ {es : List (SV × SV)} {kl : List (List Nat)} {ks : List Value}, strKeysS es = some kl → denL env (es.map (·.1)) = some ks → ks = kl.map fun l => Value.string (bytesOf l) := by
  intro es
  induction es with
  | nil =>
    intro kl ks h hd
    simp only [strKeysS] at h; cases h
    simp only [List.map_nil, denL] at hd; cases hd; rfl
  | cons x r ih =>
    intro kl ks h hd
    obtain ⟨a, u⟩ := x
    cases a <;> simp only [strKeysS] at h <;> try (cases h; done)
    cases hr : strKeysS r with
    | none => rw [hr] at h; cases h
    | some m =>
      rw [hr] at h; cases h
      obtain ⟨v, us, h1, h2, rfl⟩ := denL_cons (show denL env (SV.str _ :: r.map (·.1)) = some ks from hd)
      simp only [den, Option.some.injEq] at h1; subst h1
      rw [List.map_cons, ih hr h2]
theorem denL_strs {env : Env} : ∀ (l : List (List Nat)), denL env (l.map SV.str) = some (l.map fun x => Value.string (bytesOf x)) := by
  intro l
  induction l with
  | nil => rfl
  | cons x r ih => rw [List.map_cons, List.map_cons]; exact denL_mk (by simp only [den]) ih
end Go.Proofs.YtmcclkdkbedpmabGreatDoor

namespace Go.Proofs.YtmcclkdkbedpmabGreatDoor
open Go Go.RowKit Go.Shelf Go.Maps
variable [Known]

attribute [local go_sem] Oper.semAt_some


set_option maxRecDepth 100000 in
set_option maxHeartbeats 2000000 in
/-- maps.Keys of a map whose entries are known: its iterator gives each once. -/
theorem keysR_gives (F : Fence) (n : Nat) (h10 : F.fn 60) (hro : F.round = none) (hn : 1 ≤ n) (Bm b : Nat) (es : Array MapEntry) (hkey : ∀ e ∈ es.toList, ∃ s : ByteArray, e.key = .string s) (hborn : ∀ (i : Nat) (x : MapEntry), es[i]? = some x → x.born = i) (w : World) (hBm : Bm < w.heap.size)
    (hm : w.cell? ⟨Bm, 0, none⟩ = some (.map (some b))) (hown : w.heap[b]? = some (.map es es.size)) :
    SeqGives (α := ByteArray) F n Tryz.prog 60 #[.pointer (some ⟨Bm, 0, none⟩)] (fun s => .string s) (fun xs => (xs.map fun s => Value.string s).Perm (es.toList.map (·.key))) es.size w := by
  intro l J W hW hJ hY h0
  have hm' : W.cell? ⟨Bm, 0, none⟩ = some (.map (some b)) := (hW.cell (p := ⟨Bm, 0, none⟩) hBm).trans hm
  have hown' : W.heap[b]? = some (.map es es.size) := (hW.block b (Array.getElem?_eq_some_iff.1 hown).1).trans hown
  have hblt : b < W.heap.size := (Array.getElem?_eq_some_iff.1 hown').1
  have hnd := born_nodup hborn
  refine callsIn_of_wp Tryz.func60 rfl h10 ?_ hro
  simp only [Tryz.ntmps60, List.size_toArray, List.length_cons, List.length_nil, Nat.reduceAdd, Nat.reduceSub, Array.replicate_succ, Array.replicate_zero, List.push_toArray, List.append_toArray, List.nil_append, List.cons_append]
  have hrg := run_range_map (P := Tryz.prog) W 37 9 _ b es es.size Tryz.underlying37 hown'
  gi_wp2_with (first
    | (gi_at_range; refine wpListIn_op_val rfl (fun c h => by cases h) (fun c h => by cases h) (v := .pointer (some ⟨W.heap.size, 0, none⟩)) (w' := W.alloc (.mapIter (some b) es.size #[] es.size)) (by simp [execOp, go_sem, hrg]) ?_)
    | gi_in)
  gi_loopw [3] (fun _ wr => ∃ (seen : Array Nat) (ys : List MapEntry) (xs : List ByteArray), wr.heap[W.heap.size]? = some (.mapIter (some b) es.size seen es.size) ∧ wr.heap[b]? = some (.map es es.size) ∧ (ys ++ (leftOf es seen).toList).Perm es.toList ∧ (xs.map fun s => Value.string s) = ys.map (·.key) ∧ J xs wr)
    (fun _ wr => (leftOf es (wr.iterSeen W.heap.size)).size)
  case atStart =>
    refine ⟨#[], [], [], World.alloc_heap_new W _, ?_, ?_, rfl, ?_⟩
    · exact (Below.heap_alloc W _ b hblt).trans hown'
    · rw [left_none]; exact List.Perm.refl _
    · exact hJ [] W _ none h0 (World.grownBy_alloc W _ none) (fun r e => by cases e)
  case round =>
    obtain ⟨seen, ys, xs, hit, hb, hperm, hxy, hJs⟩ := hrel
    have hseen : wr.iterSeen W.heap.size = seen := by simp [World.iterSeen, hit]
    rcases next_known (P := Tryz.prog) _ hit hb hborn (by omega) with ⟨hl0, hnext⟩ | ⟨e, he, w2, hnext, hg2, hs2, hit2, hb2⟩
    · gi_wp2_with (first
        | (gi_at_next; refine wpListIn_next_run rfl _ rfl rfl hnext ?_)
        | gi_in)
      go_end0
      have : (leftOf es seen).toList = [] := by
        have : (leftOf es seen) = #[] := Array.eq_empty_of_size_eq_zero hl0
        rw [this]
      rw [this, List.append_nil] at hperm
      exact ⟨⟨_, rfl⟩, xs, by rw [hxy]; exact hperm.map _, hJs⟩
    · have heL := (mem_left he).1
      obtain ⟨kc, hek⟩ := hkey e heL
      have hlen : xs.length < es.size := by
        have hxl := congrArg List.length hxy
        rw [List.length_map, List.length_map] at hxl
        have := hperm.length_eq
        rw [List.length_append] at this
        have : 0 < (leftOf es seen).toList.length := List.length_pos_of_mem he
        have e2 : es.toList.length = es.size := Array.length_toList
        omega
      have hlt : W.heap.size < wr.heap.size := (Array.getElem?_eq_some_iff.1 hit).1
      have hJ2 : J xs w2 := hJ xs wr w2 (some W.heap.size) hJs hg2 (fun r q => by cases q; exact ⟨Nat.le_refl _, _, hit, rfl⟩)
      obtain ⟨fn, tmps, assign, body, hy, hR⟩ := hY xs kc _ hJ2 hlen
      clear hs2
      gi_wp2_with (first
        | (gi_at_next; refine wpListIn_next_run rfl _ rfl rfl hnext ?_)
        | (refine wpListIn_entry_run rfl _ rfl rfl (run_entry_at _ _ _ _ _ _ _ _ hit2 hb2 heL hnd) ?_; rw [hek])
        | gi_in)
      refine hR.mono ?_
      rintro e3 W3 ⟨rfl, hJ4, hk4⟩
      have hit4 := hk4.same _ _ hit2 rfl
      have hb4 := hk4.same _ _ hb2 rfl
      gi_wp2
      go_roundw
      case rel => exact ⟨_, _, _, hit4, hb4, left_step hnd he hperm, by rw [List.map_append, List.map_append, hxy]; simp [hek], hJ4⟩
      case measure => simp only [World.iterSeen, hit, hit4]; exact left_shrinks es seen e he



theorem collectR_known (w : World) (Bm b : Nat) (es : Array MapEntry) (hkey : ∀ e ∈ es.toList, ∃ s : ByteArray, e.key = .string s) (hborn : ∀ (i : Nat) (x : MapEntry), es[i]? = some x → x.born = i) (hsz : es.size ≤ 1099511627776) (hBm : Bm < w.heap.size)
    (hm : w.cell? ⟨Bm, 0, none⟩ = some (.map (some b))) (hown : w.heap[b]? = some (.map es es.size)) :
    Calls Tryz.prog 58 #[.func (.func 60) #[] #[.pointer (some ⟨Bm, 0, none⟩)]] w fun e w' => ∃ v ss, e = .returned v ∧ ((ss.map fun s => Value.string s).Perm (es.toList.map (·.key))) ∧ w'.ownsRow w.heap.size 9 1 v ss.length (ss.map Value.string) ∧ (v = .slice none 0 0 ↔ ss = []) ∧ Below w.heap.size w w' :=
  callsIn_wide.1 (collectS_in Fence.wide 3 trivial trivial rfl (Nat.le_refl _) _ _ trivial (enters_of Tryz.func60 (by kernel_rfl) rfl) (fun ss => (ss.map fun s => Value.string s).Perm (es.toList.map (·.key))) es.size (by unfold maxLen; omega) (by omega) w
    (keysR_gives Fence.wide 1 trivial rfl (Nat.le_refl _) Bm b es hkey hborn w hBm hm hown))

noncomputable def collectROut (args : List SV) (σ : SH) : Option Outs := match args with
  | [.fn (.func g) [] [.ptr x 0]] => (match σ.get x with
    | some (.cells [.map m] _ _) => (match σ.get m with
      | some (.map es) => (match strKeysS es with
        | some kl => @Bool.rec (fun _ => Option Outs) none (some ((perms kl).map fun p => rowOut 9 σ p.length (p.map SV.str))) (Nat.beq g 60 && Nat.ble es.length 4)
        | none => none)
      | _ => none)
    | _ => none)
  | _ => none
theorem collectROut_ok (b0 : Base) {args : List SV} {σ : SH} {outs : Outs} {env : Env} {w : World} {vs : List Value} (h : collectROut args σ = some outs) (hr : Rel Tryz.prog b0 env σ w) (ha : denL env args = some vs) :
    Calls Tryz.prog 58 vs.toArray w (Comes1 Tryz.prog b0 env outs) := by
  unfold collectROut at h
  split at h
  · rename_i g x
    split at h
    · rename_i m e1 x1 hx
      split at h
      · rename_i es hm
        split at h
        · rename_i kl hkl
          cases hc : (Nat.beq g 60 && Nat.ble es.length 4) with
          | false => rw [hc] at h; cases h
          | true =>
            rw [hc] at h
            replace h : some ((perms kl).map fun p => rowOut 9 σ p.length (p.map SV.str)) = some outs := h
            cases h
            rw [Bool.and_eq_true] at hc
            have hg := Nat.eq_of_beq_eq_true hc.1
            have hle4 := Nat.le_of_ble_eq_true hc.2
            subst hg
            obtain ⟨bx, cx, bm, ents, ks, hbx, hBm, hcell, hents, hkv, hkeys, hborn, hsz⟩ := hr.boxed hx hm
            have hks := strKeysS_ok hkl hkv
            have hkey : ∀ e ∈ ents.toList, ∃ s : ByteArray, e.key = .string s := fun e he => by
              have : e.key ∈ ks := hkeys ▸ List.mem_map.2 ⟨e, he, rfl⟩
              rw [hks] at this
              obtain ⟨l, _, he2⟩ := List.mem_map.1 this
              exact ⟨_, he2.symm⟩
            obtain rfl : vs = [.func (.func 60) #[] #[.pointer (some ⟨bx, 0, none⟩)]] := by
              obtain ⟨v, us', h1, h2, rfl⟩ := denL_cons ha
              simp only [denL] at h2; cases h2
              simp only [den, denL, hbx, Option.some.injEq] at h1
              subst h1; rfl
            refine (collectR_known w bx bm ents hkey hborn (by omega) hBm hcell hents).mono ?_
            rintro en w' ⟨v, ss, rfl, hperm, hrow, hnil, hb⟩
            rw [hkeys, hks] at hperm
            obtain ⟨qs, hq1, hq2⟩ := perm_lift _ _ _ hperm
            have hlen : ss.length = qs.length := by
              have := congrArg List.length hq2
              simpa using this.symm
            have hd := denL_strs (env := env) qs
            rw [hq2] at hd
            rw [hlen] at hrow
            have hnil' : v = .slice none 0 0 ↔ qs.length = 0 := by
              rw [hnil, ← hlen]; exact List.length_eq_zero_iff.symm
            obtain ⟨env', h1, h2, h3⟩ := rowOut_ok hr hb hrow hnil' hd (by kernel_rfl)
            exact ⟨_, List.mem_map.2 ⟨qs, mem_perms _ _ hq1, rfl⟩, env', v, rfl, h1, h2, h3⟩
        · cases h
      · cases h
    · cases h
  · cases h
end Go.Proofs.YtmcclkdkbedpmabGreatDoor

namespace Go.Proofs.YtmcclkdkbedpmabGreatDoor
open Go Go.RowKit Go.Shelf Go.Maps
variable [Known]

attribute [local go_sem] Oper.semAt_some
theorem next_knownD {P : Program} {w : World} (ty : TypeId) {r b : Nat} {seen : Array Nat} {es : Array MapEntry} {clock : Nat} (hr : w.heap[r]? = some (.mapIter (some b) clock seen clock)) (hb : w.heap[b]? = some (.map es clock)) (hlt : ∀ x ∈ es.toList, x.born < clock) (hne : b ≠ r) :
    ((leftOf es seen).size = 0 ∧ (Instr.next (.pointer (some ⟨r, 0, none⟩)) false ty).run P w = .ok (.tuple #[.bool false]) w) ∨
    ∃ e ∈ (leftOf es seen).toList, ∃ w2 : World, (Instr.next (.pointer (some ⟨r, 0, none⟩)) false ty).run P w = .ok (.tuple #[.bool true, e.key, e.val]) w2 ∧ w.grownBy w2 (some r) ∧ w2.heap.size = w.heap.size ∧ w2.heap[r]? = some (.mapIter (some b) clock (seen.push e.born) clock) ∧ w2.heap[b]? = some (.map es clock) := by
  have hrl := (Array.getElem?_eq_some_iff.1 hr).1
  rcases run_next_at (P := P) w ty r b clock clock seen es clock hr hb hlt (Nat.le_refl _) with ⟨h0, h1⟩ | ⟨e, he, w1, hw1, hrun⟩
  · exact .inl ⟨h0, h1⟩
  · refine .inr ⟨e, he, _, hrun, ?_⟩
    have hh : w1.heap = w.heap := by rcases hw1 with rfl | rfl <;> rfl
    have ho : w1.os = w.os ∧ w1.tape = w.tape ∧ w1.output = w.output := by rcases hw1 with rfl | rfl <;> exact ⟨rfl, rfl, rfl⟩
    refine ⟨⟨ho.1, ho.2.1, ho.2.2, by simp [ChangeMaps.setBlock, hh], fun k hk hkr => ?_⟩, by simp [ChangeMaps.setBlock, hh], by simp [ChangeMaps.setBlock, hh, hrl], ?_⟩
    · simp only [ChangeMaps.setBlock, hh]
      exact Array.getElem?_setIfInBounds_ne (fun q => hkr (by rw [q]))
    · simp only [ChangeMaps.setBlock, hh]
      rw [Array.getElem?_setIfInBounds_ne (fun q => hne q.symm)]
      exact hb

/-- What the map in a box holds. -/
theorem Rel.boxedD {b0 : Base} {env : Env} {σ : SH} {w : World} (hr : Rel Tryz.prog b0 env σ w) {x m : Nat} {e1 : TypeId} {x1 : Bool} {es : List (SV × SV)} (hx : σ.get x = some (.cells [.map m] e1 x1)) (hm : σ.get m = some (.dmap es)) :
    ∃ bx cx bm ents ks clock, env.blocks x = some (bx, cx) ∧ bx < w.heap.size ∧ w.cell? ⟨bx, 0, none⟩ = some (.map (some bm)) ∧ w.heap[bm]? = some (.map ents clock) ∧ denL env (es.map (·.1)) = some ks ∧ ents.toList.map (·.key) = ks ∧ ((∀ y ∈ ents.toList, y.born < clock) ∧ (ents.toList.map (·.born)).Nodup) ∧ ents.size = es.length := by
  obtain ⟨bx, cx, hbx, _, hOx⟩ := hr.obj x _ hx
  obtain ⟨bm, cm, hbm, _, hOm⟩ := hr.obj m _ hm
  obtain ⟨cur, t, fr, us, hcur, hth, hus, htake, _⟩ := hOx
  obtain ⟨ents, clock, kvs, vvs, hents, hkv, hvv, hkeys, hvals, hlt0, hnd⟩ := hOm
  obtain rfl : us = [.map (some bm)] := by
    obtain ⟨v, us', h1, h2, rfl⟩ := denL_cons hus
    obtain ⟨bm2, k2, h3, rfl⟩ := den_map h1
    rw [hbm] at h3; cases h3
    simp only [denL] at h2; cases h2; rfl
  have hBm : bx < w.heap.size := (Array.getElem?_eq_some_iff.1 hcur).1
  refine ⟨bx, cx, bm, ents, kvs, clock, hbx, hBm, ?_, hents, hkv, hkeys, ⟨hlt0, hnd⟩, ?_⟩
  · rw [cell_of_row w bx 0 cur t fr hcur]
    have := congrArg (·[0]?) htake
    simpa using this
  · have := denL_length hkv
    rw [← hkeys] at this
    simpa using this

set_option maxRecDepth 100000 in
set_option maxHeartbeats 2000000 in
/-- maps.Keys of a map whose entries are known: its iterator gives each once. -/
theorem keysD_gives (F : Fence) (n : Nat) (h10 : F.fn 60) (hro : F.round = none) (hn : 1 ≤ n) (Bm b : Nat) (es : Array MapEntry) (hkey : ∀ e ∈ es.toList, ∃ s : ByteArray, e.key = .string s) (clock : Nat) (hlt0 : ∀ x ∈ es.toList, x.born < clock) (hnd : (es.toList.map (·.born)).Nodup) (w : World) (hBm : Bm < w.heap.size)
    (hm : w.cell? ⟨Bm, 0, none⟩ = some (.map (some b))) (hown : w.heap[b]? = some (.map es clock)) :
    SeqGives (α := ByteArray) F n Tryz.prog 60 #[.pointer (some ⟨Bm, 0, none⟩)] (fun s => .string s) (fun xs => (xs.map fun s => Value.string s).Perm (es.toList.map (·.key))) es.size w := by
  intro l J W hW hJ hY h0
  have hm' : W.cell? ⟨Bm, 0, none⟩ = some (.map (some b)) := (hW.cell (p := ⟨Bm, 0, none⟩) hBm).trans hm
  have hown' : W.heap[b]? = some (.map es clock) := (hW.block b (Array.getElem?_eq_some_iff.1 hown).1).trans hown
  have hblt : b < W.heap.size := (Array.getElem?_eq_some_iff.1 hown').1
  refine callsIn_of_wp Tryz.func60 rfl h10 ?_ hro
  simp only [Tryz.ntmps60, List.size_toArray, List.length_cons, List.length_nil, Nat.reduceAdd, Nat.reduceSub, Array.replicate_succ, Array.replicate_zero, List.push_toArray, List.append_toArray, List.nil_append, List.cons_append]
  have hrg := run_range_map (P := Tryz.prog) W 37 9 _ b es clock Tryz.underlying37 hown'
  gi_wp2_with (first
    | (gi_at_range; refine wpListIn_op_val rfl (fun c h => by cases h) (fun c h => by cases h) (v := .pointer (some ⟨W.heap.size, 0, none⟩)) (w' := W.alloc (.mapIter (some b) clock #[] clock)) (by simp [execOp, go_sem, hrg]) ?_)
    | gi_in)
  gi_loopw [3] (fun _ wr => ∃ (seen : Array Nat) (ys : List MapEntry) (xs : List ByteArray), wr.heap[W.heap.size]? = some (.mapIter (some b) clock seen clock) ∧ wr.heap[b]? = some (.map es clock) ∧ (ys ++ (leftOf es seen).toList).Perm es.toList ∧ (xs.map fun s => Value.string s) = ys.map (·.key) ∧ J xs wr)
    (fun _ wr => (leftOf es (wr.iterSeen W.heap.size)).size)
  case atStart =>
    refine ⟨#[], [], [], World.alloc_heap_new W _, ?_, ?_, rfl, ?_⟩
    · exact (Below.heap_alloc W _ b hblt).trans hown'
    · rw [left_none]; exact List.Perm.refl _
    · exact hJ [] W _ none h0 (World.grownBy_alloc W _ none) (fun r e => by cases e)
  case round =>
    obtain ⟨seen, ys, xs, hit, hb, hperm, hxy, hJs⟩ := hrel
    have hseen : wr.iterSeen W.heap.size = seen := by simp [World.iterSeen, hit]
    rcases next_knownD (P := Tryz.prog) _ hit hb hlt0 (by omega) with ⟨hl0, hnext⟩ | ⟨e, he, w2, hnext, hg2, hs2, hit2, hb2⟩
    · gi_wp2_with (first
        | (gi_at_next; refine wpListIn_next_run rfl _ rfl rfl hnext ?_)
        | gi_in)
      go_end0
      have : (leftOf es seen).toList = [] := by
        have : (leftOf es seen) = #[] := Array.eq_empty_of_size_eq_zero hl0
        rw [this]
      rw [this, List.append_nil] at hperm
      exact ⟨⟨_, rfl⟩, xs, by rw [hxy]; exact hperm.map _, hJs⟩
    · have heL := (mem_left he).1
      obtain ⟨kc, hek⟩ := hkey e heL
      have hlen : xs.length < es.size := by
        have hxl := congrArg List.length hxy
        rw [List.length_map, List.length_map] at hxl
        have := hperm.length_eq
        rw [List.length_append] at this
        have : 0 < (leftOf es seen).toList.length := List.length_pos_of_mem he
        have e2 : es.toList.length = es.size := Array.length_toList
        omega
      have hlt : W.heap.size < wr.heap.size := (Array.getElem?_eq_some_iff.1 hit).1
      have hJ2 : J xs w2 := hJ xs wr w2 (some W.heap.size) hJs hg2 (fun r q => by cases q; exact ⟨Nat.le_refl _, _, hit, rfl⟩)
      obtain ⟨fn, tmps, assign, body, hy, hR⟩ := hY xs kc _ hJ2 hlen
      clear hs2
      gi_wp2_with (first
        | (gi_at_next; refine wpListIn_next_run rfl _ rfl rfl hnext ?_)
        | (refine wpListIn_entry_run rfl _ rfl rfl (run_entry_at _ _ _ _ _ _ _ _ hit2 hb2 heL hnd) ?_; rw [hek])
        | gi_in)
      refine hR.mono ?_
      rintro e3 W3 ⟨rfl, hJ4, hk4⟩
      have hit4 := hk4.same _ _ hit2 rfl
      have hb4 := hk4.same _ _ hb2 rfl
      gi_wp2
      go_roundw
      case rel => exact ⟨_, _, _, hit4, hb4, left_step hnd he hperm, by rw [List.map_append, List.map_append, hxy]; simp [hek], hJ4⟩
      case measure => simp only [World.iterSeen, hit, hit4]; exact left_shrinks es seen e he



theorem collectD_known (w : World) (Bm b : Nat) (es : Array MapEntry) (hkey : ∀ e ∈ es.toList, ∃ s : ByteArray, e.key = .string s) (clock : Nat) (hlt0 : ∀ x ∈ es.toList, x.born < clock) (hnd : (es.toList.map (·.born)).Nodup) (hsz : es.size ≤ 1099511627776) (hBm : Bm < w.heap.size)
    (hm : w.cell? ⟨Bm, 0, none⟩ = some (.map (some b))) (hown : w.heap[b]? = some (.map es clock)) :
    Calls Tryz.prog 58 #[.func (.func 60) #[] #[.pointer (some ⟨Bm, 0, none⟩)]] w fun e w' => ∃ v ss, e = .returned v ∧ ((ss.map fun s => Value.string s).Perm (es.toList.map (·.key))) ∧ w'.ownsRow w.heap.size 9 1 v ss.length (ss.map Value.string) ∧ (v = .slice none 0 0 ↔ ss = []) ∧ Below w.heap.size w w' :=
  callsIn_wide.1 (collectS_in Fence.wide 3 trivial trivial rfl (Nat.le_refl _) _ _ trivial (enters_of Tryz.func60 (by kernel_rfl) rfl) (fun ss => (ss.map fun s => Value.string s).Perm (es.toList.map (·.key))) es.size (by unfold maxLen; omega) (by omega) w
    (keysD_gives Fence.wide 1 trivial rfl (Nat.le_refl _) Bm b es hkey clock hlt0 hnd w hBm hm hown))

noncomputable def collectDOut (args : List SV) (σ : SH) : Option Outs := match args with
  | [.fn (.func g) [] [.ptr x 0]] => (match σ.get x with
    | some (.cells [.map m] _ _) => (match σ.get m with
      | some (.dmap es) => (match strKeysS es with
        | some kl => @Bool.rec (fun _ => Option Outs) none (some ((perms kl).map fun p => rowOut 9 σ p.length (p.map SV.str))) (Nat.beq g 60 && Nat.ble es.length 4)
        | none => none)
      | _ => none)
    | _ => none)
  | _ => none
theorem collectDOut_ok (b0 : Base) {args : List SV} {σ : SH} {outs : Outs} {env : Env} {w : World} {vs : List Value} (h : collectDOut args σ = some outs) (hr : Rel Tryz.prog b0 env σ w) (ha : denL env args = some vs) :
    Calls Tryz.prog 58 vs.toArray w (Comes1 Tryz.prog b0 env outs) := by
  unfold collectDOut at h
  split at h
  · rename_i g x
    split at h
    · rename_i m e1 x1 hx
      split at h
      · rename_i es hm
        split at h
        · rename_i kl hkl
          cases hc : (Nat.beq g 60 && Nat.ble es.length 4) with
          | false => rw [hc] at h; cases h
          | true =>
            rw [hc] at h
            replace h : some ((perms kl).map fun p => rowOut 9 σ p.length (p.map SV.str)) = some outs := h
            cases h
            rw [Bool.and_eq_true] at hc
            have hg := Nat.eq_of_beq_eq_true hc.1
            have hle4 := Nat.le_of_ble_eq_true hc.2
            subst hg
            obtain ⟨bx, cx, bm, ents, ks, clock, hbx, hBm, hcell, hents, hkv, hkeys, hbo, hsz⟩ := hr.boxedD hx hm
            have hks := strKeysS_ok hkl hkv
            have hkey : ∀ e ∈ ents.toList, ∃ s : ByteArray, e.key = .string s := fun e he => by
              have : e.key ∈ ks := hkeys ▸ List.mem_map.2 ⟨e, he, rfl⟩
              rw [hks] at this
              obtain ⟨l, _, he2⟩ := List.mem_map.1 this
              exact ⟨_, he2.symm⟩
            obtain rfl : vs = [.func (.func 60) #[] #[.pointer (some ⟨bx, 0, none⟩)]] := by
              obtain ⟨v, us', h1, h2, rfl⟩ := denL_cons ha
              simp only [denL] at h2; cases h2
              simp only [den, denL, hbx, Option.some.injEq] at h1
              subst h1; rfl
            refine (collectD_known w bx bm ents hkey clock hbo.1 hbo.2 (by omega) hBm hcell hents).mono ?_
            rintro en w' ⟨v, ss, rfl, hperm, hrow, hnil, hb⟩
            rw [hkeys, hks] at hperm
            obtain ⟨qs, hq1, hq2⟩ := perm_lift _ _ _ hperm
            have hlen : ss.length = qs.length := by
              have := congrArg List.length hq2
              simpa using this.symm
            have hd := denL_strs (env := env) qs
            rw [hq2] at hd
            rw [hlen] at hrow
            have hnil' : v = .slice none 0 0 ↔ qs.length = 0 := by
              rw [hnil, ← hlen]; exact List.length_eq_zero_iff.symm
            obtain ⟨env', h1, h2, h3⟩ := rowOut_ok hr hb hrow hnil' hd (by kernel_rfl)
            exact ⟨_, List.mem_map.2 ⟨qs, mem_perms _ _ hq1, rfl⟩, env', v, rfl, h1, h2, h3⟩
        · cases h
      · cases h
    · cases h
  · cases h
end Go.Proofs.YtmcclkdkbedpmabGreatDoor

namespace Go.Proofs.YtmcclkdkbedpmabGreatDoor
open Go Go.RowKit
variable [Known]
/-- At arguments A the value v. -/
noncomputable def constOut (A : List SV) (v : SV) (args : List SV) (σ : SH) : Option Outs := @Bool.rec (fun _ => Option Outs) none (some [(v, σ)]) (eqSL args A)
theorem constOut_ok {P : Program} {k : FuncId} {A : List SV} {v : SV} {vs0 : List Value} {u : Value} (hA : ∀ env, denL env A = some vs0) (hv : ∀ env, den env v = some u) (hc : ∀ w, MaxLenIs P w → Calls P k vs0.toArray w fun e w' => e = .returned u ∧ Below w.heap.size w w') (b : Base) {args : List SV} {σ : SH} {outs : Outs} {env : Env} {w : World} {vs : List Value}
    (h : constOut A v args σ = some outs) (hr : Rel P b env σ w) (ha : denL env args = some vs) : Calls P k vs.toArray w (Comes1 P b env outs) := by
  unfold constOut at h
  cases hb : eqSL args A with
  | false => rw [hb] at h; cases h
  | true =>
    rw [hb] at h
    obtain rfl := eqSL_ok _ _ hb
    replace h : some [(v, σ)] = some outs := h
    cases h
    rw [hA] at ha; cases ha
    refine (hc w hr.maxLen).mono ?_
    rintro e w' ⟨rfl, hbw⟩
    exact ⟨_, List.mem_singleton.2 rfl, env, _, rfl, Env.le_refl _, hr.world hbw, hv env⟩
end Go.Proofs.YtmcclkdkbedpmabGreatDoor

namespace Go.Proofs.YtmcclkdkbedpmabGreatDoor
open Go.ChangeShapes Go.WideShapes Go.ChangeAt Go.RowKit Go.ChangeMaps

theorem okWide_one {P : Program} {w : World} {r : Reach} {b : Nat} {t : TypeId} {v : Value} (h : Cell.okWide P w r b t v) : v.oneCell' = true := by
  cases v <;> first | rfl | (exfalso; unfold Cell.okWide at h; split at h <;> first | (rename_i h1 h2; cases h2; done) | (unfold Cell.ok at h; revert h; split <;> simp_all))
def composed (P : Program) (t : TypeId) : Bool := match P.underlying t with
  | some (.struct _) | some (.array _ _) => true
  | _ => false
/-- A composed value's cells, one by one. -/
theorem agg_row {P : Program} {w : World} {r : Reach} {b : Nat} {t : TypeId} {n : Nat} {v : Value} (hc : (composed P t && Nat.beq (P.cellsOf t) n) = true) (h : Value.okWide P w r b t v) :
    ∃ l : List Value, v = .agg l.toArray ∧ l.length = n ∧ ∀ u ∈ l, u.oneCell' = true := by
  rw [Bool.and_eq_true] at hc
  obtain ⟨hc, hn⟩ := hc
  have hn := Nat.eq_of_beq_eq_true hn
  unfold composed at hc
  unfold Value.okWide at h
  have key : (∃ cs, v = .agg cs ∧ cs.size = P.cellsOf t ∧ Row.okWide P w r b t cs) → ∃ l : List Value, v = .agg l.toArray ∧ l.length = n ∧ ∀ u ∈ l, u.oneCell' = true := by
    rintro ⟨cs, rfl, hs, ts, _, _, hcell⟩
    refine ⟨cs.toList, by simp, by simpa [hn] using hs, fun u hu => ?_⟩
    obtain ⟨i, hi⟩ := List.getElem?_of_mem hu
    obtain ⟨_, _, hk⟩ := hcell i u (by simpa using hi)
    exact okWide_one hk
  cases hu : P.underlying t with
  | none => rw [hu] at hc; cases hc
  | some d => rw [hu] at hc h; cases d <;> first | exact key h | cases hc
/-- Is the last cell of so many and one a text? -/
def lastText (P : Program) (t : TypeId) (n : Nat) : Bool := match P.cellTypes P.depth t with
  | some ts => Nat.beq ts.length (n + 1) && (match ts[n]? with
    | some u => (match P.underlying u with
      | some .string => true
      | _ => false)
    | none => false)
  | none => false
theorem agg_text {P : Program} {w : World} {r : Reach} {b : Nat} {t : TypeId} {n : Nat} {v : Value} (hc : (composed P t && Nat.beq (P.cellsOf t) (n + 1)) = true) (hs : lastText P t n = true) (h : Value.okWide P w r b t v) :
    ∃ (l : List Value) (s : ByteArray), v = .agg (l ++ [Value.string s]).toArray ∧ l.length = n ∧ ∀ u ∈ l, u.oneCell' = true := by
  obtain ⟨m, rfl, hl, h1⟩ := agg_row hc h
  rw [Bool.and_eq_true] at hc
  have hcomp := hc.1
  unfold composed at hcomp
  unfold Value.okWide at h
  have key : Row.okWide P w r b t m.toArray → ∃ s, m[n]? = some (Value.string s) := by
    rintro ⟨ts, hts, _, hcell⟩
    unfold lastText at hs
    rw [hts] at hs
    simp only [Bool.and_eq_true] at hs
    obtain ⟨hlen, hu⟩ := hs
    have hlen := Nat.eq_of_beq_eq_true hlen
    have hn : n < m.length := by omega
    obtain ⟨u, hu1, hu2⟩ := hcell n m[n] (by simp [hn])
    rw [hlen, Nat.mod_eq_of_lt (Nat.lt_succ_self n)] at hu1
    rw [hu1] at hu
    simp only at hu
    unfold Cell.okWide at hu2
    rw [List.getElem?_eq_getElem hn]
    generalize m[n] = x at *
    cases hd : P.underlying u with
    | none => rw [hd] at hu; cases hu
    | some d =>
      rw [hd] at hu hu2
      cases d <;> first | (cases hu; done) | skip
      cases x <;> first | (exact ⟨_, rfl⟩) | (exfalso; simp only at hu2; unfold Cell.ok at hu2; rw [hd] at hu2; exact hu2)
  have hk : ∃ s, m[n]? = some (Value.string s) := by
    cases hu : P.underlying t with
    | none => rw [hu] at hcomp; cases hcomp
    | some d => rw [hu] at hcomp h; cases d <;> first | (cases hcomp; done) | (obtain ⟨cs, e, _, hr⟩ := h; cases e; exact key hr)
  obtain ⟨s, hms⟩ := hk
  refine ⟨m.take n, s, ?_, by simp; omega, fun u hu => h1 u (List.mem_of_mem_take hu)⟩
  have : m = m.take n ++ [Value.string s] := by
    have e := List.take_append_drop n m
    have d : m.drop n = [Value.string s] := by
      apply List.ext_getElem?
      intro i
      rw [List.getElem?_drop]
      cases i with
      | zero => simpa using hms
      | succ i => rw [List.getElem?_eq_none (by omega)]; simp
    rw [← d]; exact e.symm
  rw [← this]
theorem agg_two {P : Program} {w : World} {r : Reach} {b : Nat} {t : TypeId} {v : Value} (hc : (composed P t && Nat.beq (P.cellsOf t) 2) = true) (h : Value.okWide P w r b t v) :
    ∃ x y, v = .agg #[x, y] ∧ x.oneCell' = true ∧ y.oneCell' = true := by
  obtain ⟨l, rfl, hl, h1⟩ := agg_row hc h
  match l, hl with
  | [x, y], _ => exact ⟨x, y, rfl, h1 x (by simp), h1 y (by simp)⟩

theorem witness_shaped {H : Type} {enc : TypeId × Value → H} {C : Checked} {os : Os} {f : FuncId} {fn : Func} {s : OpenSpec} {conds : List PathCond} {apart : Bool} {laid : List (String × DataW Unit)} (modest : Bool) (w0 : World) (args : Array Value) (hos : w0.os = os)
    (hsh : (w0.forCall (fun _ _ => 0) ⟨#[], args, []⟩).Shaped C.prog) (hok : Input.okWideB C.prog (w0.forCall (fun _ _ => 0) ⟨#[], args, []⟩) f ⟨#[], args, []⟩ = true)
    (hrow : s.preRow enc C.prog fn conds apart laid (w0.forCall (fun _ _ => 0) ⟨#[], args, []⟩).memory args) :
    ∃ (w : World) (tape : Tape) (i : Input), w.os = os ∧ (w.forCall tape i).Shaped C.prog ∧ i.vars = [] ∧ Input.okWide C.prog (w.forCall tape i) .any w.heap.size f i ∧
      s.preRow enc C.prog fn conds apart laid (w.forCall tape i).memory i.args ∧ ({ modest := modest } : Assume).holds C.prog (lone (Frame.enter C.prog f i.args .normal) [] (w.forCall tape i)) :=
  ⟨w0, fun _ _ => 0, ⟨#[], args, []⟩, hos, hsh, (Input.okWide_of_okWideB (base := 0) hok).1, (Input.okWide_of_okWideB hok).2, hrow, by
    simp only [Assume.holds]
    exact ⟨by simp, by simp, fun _ => Modest.zero, by simp, by simp⟩⟩
end Go.Proofs.YtmcclkdkbedpmabGreatDoor

