/-
  slices.AppendSeq over an iterator that gives ids: one round.

  slices.AppendSeq(nil, keys) and slices.Collect(keys) for an iterator that gives ids; then slices.Collect(maps.Keys) of a known map.

  maps.Keys of a map whose keys are strings and whose entries are known: its iterator gives each key once, in whatever order.

  slices.AppendSeq(nil, seq) and slices.Collect(seq) for an iterator that gives strings. (The proofs follow the kit's own contract of the iterator idiom, at this seat's numbers.)

  Functions without a body: strings.IndexByte, strings.Compare, as contracts and as the executor's summaries.

  bytes.Compare, as a contract and as the executor's summary; permutations.

  slices.Collect over maps.Keys of a known map, as the executor's summaries: one outcome for each order in which the keys may come.

  slices.Collect over maps.Keys of another map with texts for keys.

  objects.less: two ids held against one another.

  Ids in order: the order of bytes is a strict weak one; two rows of ids, both sorted, of the same ids without a double, are one.

  slices.SortedFunc(maps.Keys(m), less) over ids: the keys, rising.
-/
import Derived.Test.YtjnjcielihgagabGreatDoorJ5
import Derived.Maps.AppendAt
import Derived.Maps.RangeRun
import Derived.RangeFuncGives
import Derived.Deep.WholeRow
import Derived.Laws.IdiomRangeMap
import Derived.Test.YtjnjcielihgagabGreatDoorChecked
import Derived.WalkKit
import Derived.ProofKit
import Derived.Lib.Bytealg
import Derived.Lib.Walk
import Derived.Shelf.SlSortCmp.WholeK
import Derived.Test.YtjnjcielihgagabGreatDoorSortIShelf
set_option linter.unusedSimpArgs false
set_option linter.unusedVariables false
namespace Go.Proofs.YtjnjcielihgagabGreatDoor
open Go Go.RowKit Go.Shelf Go.Maps

attribute [local go_sem] Oper.semAt_some


def apAssign : Code := (Code.region 2 #[{ dst := some 5, op := Op.alloc 28, type := 0, pos := "iter.go:51", after := #[], guard := none }, { dst := none, op := Op.store 28 (Operand.tmp 5) (Operand.tmp 7), type := 0, pos := "iter.go:51", after := #[{ on := 0, ground := Ground.data }, { on := 0, ground := Ground.phase }], guard := none }] false)
def apBody : Code := (Code.block 1 (Code.region 3 #[{ dst := some 8, op := Op.load 44 (Operand.tmp 2), type := 44, pos := "iter.go:52", after := #[], guard := none }, { dst := some 9, op := Op.load 28 (Operand.tmp 5), type := 28, pos := "iter.go:52", after := #[], guard := none }, { dst := some 10, op := Op.buildSlice 44 1 #[(0, Operand.tmp 9)], type := 44, pos := "iter.go:52", after := #[{ on := 1, ground := Ground.data }], guard := none }, { dst := some 11, op := Op.call { callee := Callee.builtin Builtin.append, args := #[Operand.tmp 8, Operand.tmp 10], argTypes := #[44, 44] }, type := 44, pos := "iter.go:52", after := #[{ on := 0, ground := Ground.data }, { on := 2, ground := Ground.data }], guard := none }, { dst := none, op := Op.store 44 (Operand.tmp 2) (Operand.tmp 11), type := 0, pos := "iter.go:52", after := #[{ on := 3, ground := Ground.data }, { on := 3, ground := Ground.chain }, { on := 0, ground := Ground.phase }, { on := 1, ground := Ground.phase }, { on := 2, ground := Ground.phase }, { on := 3, ground := Ground.phase }], guard := none }] false))
/-- The loop's record. -/
def apRec (fn : FuncId) (sv : Value) (Bs D : Nat) (st : LoopState) (pend : Option Code) : Loop :=
  { state := st, pending := pend, fn, tmps := #[.slice none 0 0, sv, .pointer (some ⟨Bs, 0, none⟩), undef, .slice none 0 0, undef, sv, undef, undef, undef, undef, undef, undef], params := #[7], assign := apAssign, body := apBody, defers := D }

/-- A key's cells. -/
def keyCells (k : IdK) : List Value := k.kc.toList
/-- Between two rounds: the box holds a slice that owns what has come so far. -/
structure ApAt (w0 : World) (fn : FuncId) (sv : Value) (Bs l D : Nat) (ss : List IdK) (W : World) : Prop where
  box : ∃ v, W.heap[Bs]? = some (.cells #[v] 44 (0, 0)) ∧ W.ownsRow w0.heap.size 28 20 v ss.length (ss.flatMap keyCells) ∧ (v = .slice none 0 0 ↔ ss = [])
  L : W.heap[l]? = some (.loop (apRec fn sv Bs D .ready none))
  K : W.heap[D]? = some (.deferred (some []))
  below : Below w0.heap.size w0 W

theorem ownsRow_abides_q {W W' : World} {row : Option Nat} {base : Nat} {e : TypeId} {size : Nat} {v : Value} {k : Nat} {xs : List Value} (h : W.ownsRow base e size v k xs) (hg : W.grownBy W' row)
    (hrow : ∀ r, row = some r → ∃ o : Obj, W.heap[r]? = some o ∧ o.isWalk = true) : W'.ownsRow base e size v k xs := by
  refine h.kept hg ?_
  rcases h.2 with ⟨rfl, _⟩ | ⟨g, cap, cur, rfl, _, hgb, _⟩
  · exact .inl rfl
  · refine .inr fun e' => ?_
    obtain ⟨o, ho, hw⟩ := hrow g (by simpa [Value.ownBlock] using e'.symm)
    rw [hgb] at ho; cases ho; cases hw

theorem ap_abides (w0 : World) (fn : FuncId) (sv : Value) (Bs l D B : Nat) (hB : w0.heap.size ≤ B) : AbidesFrom B (ApAt w0 fn sv Bs l D) := fun s W W' row h hg hrow => by
  have hrow' : ∀ r, row = some r → ∃ o : Obj, W.heap[r]? = some o ∧ o.isWalk = true := fun r e => (hrow r e).2
  obtain ⟨v, hv, hr, hn⟩ := h.box
  exact ⟨⟨v, (grownBy_keeps hg hrow' hv rfl).trans hv, ownsRow_abides_q hr hg hrow', hn⟩, (grownBy_keeps hg hrow' h.L rfl).trans h.L, (grownBy_keeps hg hrow' h.K rfl).trans h.K,
    h.below.grown hg h.below.size (fun k e => Nat.le_trans hB (hrow k e).1)⟩

theorem grownBy_setCell0_q (W : World) (b : Nat) (v : Value) : W.grownBy (W.setCell ⟨b, 0, none⟩ v) (some b) :=
  ⟨rfl, rfl, rfl, (KeepsWalks.setCell W _ v).size, fun k _ hk => Below.heap_setCell _ _ _ k (fun e => hk (by rw [e]))⟩
theorem ownsRow_ne_q {W : World} {base : Nat} {e : TypeId} {size : Nat} {v : Value} {k : Nat} {xs : List Value} (h : W.ownsRow base e size v k xs) {j : Nat} {o : Obj} (hj : W.heap[j]? = some o) (hno : ∀ cur, o ≠ .cells cur e (0, 0)) :
    v.ownBlock = none ∨ v.ownBlock ≠ some j := by
  rcases h.2 with ⟨rfl, _⟩ | ⟨g, cap, cur, rfl, _, hgb, _⟩
  · exact .inl rfl
  · refine .inr fun e' => ?_
    have : g = j := by simpa [Value.ownBlock] using e'
    subst this; rw [hgb] at hj; cases hj; exact hno cur rfl
theorem cell_of_box_q {W : World} {B : Nat} {v : Value} {t : TypeId} (h : W.heap[B]? = some (.cells #[v] t (0, 0))) : W.cell? ⟨B, 0, none⟩ = some v ∧ W.frozen? ⟨B, 0, none⟩ = false := by
  constructor <;> simp [World.cell?, World.frozen?, h]
theorem heap_setCell_box_q {W : World} {B : Nat} {v : Value} {t : TypeId} (v' : Value) (h : W.heap[B]? = some (.cells #[v] t (0, 0))) : (W.setCell ⟨B, 0, none⟩ v').heap[B]? = some (.cells #[v'] t (0, 0)) := by
  obtain ⟨hlt, hk⟩ := Array.getElem?_eq_some_iff.1 h
  show (W.heap.modify B _)[B]? = _
  rw [Array.getElem?_eq_getElem (by rw [Array.size_modify]; exact hlt), Array.getElem_modify_self, hk]
  rfl

theorem exec_load_at {w : World} {c : Array Value} {b : Nat} {p : Operand} {ρ : Operand → Value} (hc : c.size = 20) (hb : w.heap[b]? = some (.cells c 28 (0, 0)))
    (hp : ρ p = .pointer (some ⟨b, 0, none⟩)) (d : Option Tmp) (ty : TypeId) (pos : String) (af : Array Edge) :
    (execOp ρ ⟨d, .load 28 p, ty, pos, af, none⟩).run Tryz.prog w = .ok (.value (.agg c)) w := by
  have := run_loadVar_row (P := Tryz.prog) w _ 28 28 c (0, 0) _ hb Tryz.underlying28 rfl (infoIdSize hc)
  simp only [execOp, hp, Instr.loadAt, Instr.sureAddr, Sem.run_bind, Sem.run_pure, Result.andThen, this]
theorem ownsRow_not_walk_q {W : World} {base : Nat} {e : TypeId} {size : Nat} {v : Value} {k : Nat} {xs : List Value} (h : W.ownsRow base e size v k xs) : ∀ (j : Nat) (o : Obj), v.ownBlock = some j → W.heap[j]? = some o → o.isWalk = false := by
  intro j o hj ho
  rcases h.2 with ⟨rfl, _⟩ | ⟨g, cap, cur, rfl, _, hgb, _⟩
  · simp [Value.ownBlock] at hj
  · have : g = j := by simpa [Value.ownBlock] using hj
    subst this; rw [hgb] at ho; cases ho; rfl

set_option maxRecDepth 100000 in
set_option maxHeartbeats 2000000 in
theorem apYield (F : Fence) (m : Nat) (w0 : World) (fn : FuncId) (hfn : F.fn fn) (sv : Value) (Bs l D : Nat) (hBl : Bs ≠ l) (hDl : D ≠ l) (hDB : D ≠ Bs) (h0B : w0.heap.size ≤ Bs) (h0l : w0.heap.size ≤ l)
    (N : Nat) (hN : N ≤ maxLen) (hNb : N * 20 ≤ 140737488355328) (ss : List IdK) (x : IdK) (W : World) (h : ApAt w0 fn sv Bs l D ss W) (hlen : ss.length < N) :
    YieldAt F m Tryz.prog l #[.agg x.kc] W fun e W' => e = .returned (.bool true) ∧ ApAt w0 fn sv Bs l D (ss ++ [x]) W' ∧ KeepsWalks W W' := by
  obtain ⟨i0, hi, hz0, hz1, hz2⟩ := info_parts infoId
  obtain ⟨v, hv, hrow, _⟩ := h.box
  obtain ⟨kc, hkc, hk1⟩ := x
  have hkx : keyCells ⟨kc, hkc, hk1⟩ = kc.toList := rfl
  refine ⟨fn, #[.slice none 0 0, sv, .pointer (some ⟨Bs, 0, none⟩), undef, .slice none 0 0, undef, sv, .agg kc, undef, undef, undef, undef, undef], apAssign, apBody, by simpa [apRec] using run_yield (P := Tryz.prog) (args := #[.agg kc]) h.L rfl, roundIn_of_wpIn hfn ?_⟩
  have hl : l < W.heap.size := (Array.getElem?_eq_some_iff.1 h.L).1
  have hBlt : Bs < W.heap.size := (Array.getElem?_eq_some_iff.1 hv).1
  have hDlt : D < W.heap.size := (Array.getElem?_eq_some_iff.1 h.K).1
  obtain ⟨W2, hW2⟩ : ∃ W2, W.alloc (.cells kc 28) = W2 := ⟨_, rfl⟩
  have hk2 : KeepsWalks W W2 := by rw [← hW2]; exact KeepsWalks.alloc _ _
  have hv2 : W2.heap[Bs]? = some (.cells #[v] 44 (0, 0)) := by rw [← hW2]; exact (Below.heap_alloc _ _ Bs hBlt).trans hv
  have hK2 : W2.heap[D]? = some (.deferred (some [])) := by rw [← hW2]; exact (Below.heap_alloc _ _ D hDlt).trans h.K
  have hL2 : W2.heap[l]? = some (.loop (apRec fn sv Bs D .ready none)) := by rw [← hW2]; exact (Below.heap_alloc _ _ l hl).trans h.L
  have hrow2 : W2.ownsRow w0.heap.size 28 20 v ss.length (ss.flatMap keyCells) := by rw [← hW2]; exact hrow.alloc _
  have hb2 : Below w0.heap.size w0 W2 := by rw [← hW2]; exact h.below.alloc h.below.size _
  have hs2 : W2.heap.size = W.heap.size + 1 := by rw [← hW2]; simp
  have hr2 : W2.heap[W.heap.size]? = some (.cells kc 28 (0, 0)) := by rw [← hW2]; exact World.alloc_heap_new W _
  have hbr := run_beginRound (P := Tryz.prog) hL2 rfl
  obtain ⟨W3, hW3⟩ : ∃ W3, W2.putObj l (.loop { apRec fn sv Bs D .ready none with state := .busy }) = W3 := ⟨_, rfl⟩
  rw [hW3] at hbr
  have hg3 : W2.grownBy W3 (some l) := by rw [← hW3]; exact grownBy_putObj' _ _ _
  have hk3 : KeepsWalks W2 W3 := by rw [← hW3]; exact KeepsWalks.putObj _ hL2 rfl
  have hl2 : l < W2.heap.size := (Array.getElem?_eq_some_iff.1 hL2).1
  have hv3 : W3.heap[Bs]? = some (.cells #[v] 44 (0, 0)) := by rw [← hW3]; exact (World.putObj_heap_other hBl).trans hv2
  have hK3 : W3.heap[D]? = some (.deferred (some [])) := by rw [← hW3]; exact (World.putObj_heap_other hDl).trans hK2
  have hL3 : W3.heap[l]? = some (.loop { apRec fn sv Bs D .ready none with state := .busy }) := by rw [← hW3]; exact World.putObj_heap_same hl2
  have hr3 : W3.heap[W.heap.size]? = some (.cells kc 28 (0, 0)) := by rw [← hW3]; exact (World.putObj_heap_other (by omega)).trans hr2
  have hrow3 : W3.ownsRow w0.heap.size 28 20 v ss.length (ss.flatMap keyCells) := hrow2.kept hg3 (ownsRow_ne_q hrow2 hL2 (fun cur e => by cases e))
  have hb3 : Below w0.heap.size w0 W3 := hb2.grown hg3 hb2.size (fun k e => by cases e; exact h0l)
  have hs3 : W3.heap.size = W.heap.size + 1 := by rw [← hW3, ← hs2]; simp
  obtain ⟨hc3, hf3⟩ := cell_of_box_q hv3
  have ne_of : ∀ {j : Nat} {o : Obj}, W3.heap[j]? = some o → (∀ cur, o ≠ .cells cur 28 (0, 0)) → some j ≠ v.ownBlock := fun hj hno => by
    rcases ownsRow_ne_q hrow3 hj hno with e | e
    · rw [e]; simp
    · exact fun e' => e e'.symm
  have hnews : ∀ j u, kc.toList[j]? = some u → (W3.alloc (.cells kc 28)).cell? ((⟨W3.heap.size, 0, none⟩ : Addr).add j) = some u := fun j u hu => by
    have hadd : (⟨W3.heap.size, 0, none⟩ : Addr).add j = ⟨W3.heap.size, j, none⟩ := by unfold Addr.add; split <;> simp_all
    have hnew := World.alloc_heap_new W3 (.cells kc 28)
    rw [hadd, cell_of_row _ _ j kc 28 (0, 0) hnew]
    simpa using hu
  have hone : ∀ u ∈ kc.toList, u.oneCell' = true := fun u hu => by
    have := Array.all_eq_true'.1 hk1 u (Array.mem_toList_iff.1 hu)
    exact this
  unfold apAssign
  gi_wp2_with (first
    | (refine wpListIn_op_val rfl (fun c h => by cases h) (fun c h => by cases h) (exec_alloc_row (zeroId _) _ _ _ _ _) ?_)
    | (refine wpListIn_op_skip rfl (fun c h => by cases h) (fun c h => by cases h) (exec_store_row (z := Array.replicate 20 (.int .u8 0)) (c := kc) (infoIdSize hkc) (by rw [hkc, Array.size_replicate]) hk1 rfl rfl _ _ _ _) ?_; rw [hW2])
    | (rw [Oper.semAt_eq _ _ _ (fun c h => by cases h)]; go_simp; try go_bits))
  unfold apBody
  gi_wp2_with (first
    | (refine wpListIn_op_val rfl (fun c h => by cases h) (fun c h => by cases h) (exec_load_at hkc hr3 rfl _ _ _ _) ?_)
    | (refine wpListIn_op_val rfl (fun c h => by cases h) (fun c h => by cases h) (exec_buildSlice_id hkc rfl _ _ _ _) ?_)
    | (gi_at_builtin; refine wpListIn_append_own _ rfl _ _ 44 rfl w0.heap.size 28 i0 (.agg (Array.replicate 20 (.int .u8 0))) 20 20 Tryz.underlying44 hi hz0 hz1 hz2 rfl (by decide) v ss.length (ss.flatMap keyCells) rfl (hrow3.alloc _) ⟨W3.heap.size, 0, none⟩ 1 1 kc.toList rfl (by simp [hkc]) hnews hone (by omega) (by omega) (by have := hb3.size; simp; omega) ?_; intro v' w4 hown' hg4 hnil4
       have hv4 : w4.heap[Bs]? = some (.cells #[v] 44 (0, 0)) := (hg4.block Bs (by simp; omega) (ne_of hv3 (fun cur e => by cases e))).trans ((Below.heap_alloc _ _ Bs (by omega)).trans hv3)
       obtain ⟨hc4, hf4⟩ := cell_of_box_q hv4
       obtain ⟨g', cap', cur', rfl, hbase', hgb', hr1, hr2, hr3, hr4⟩ : ∃ g' cap' cur', v' = .slice (some ⟨g', 0, none⟩) (ss.length + 1) cap' ∧ w0.heap.size ≤ g' ∧ w4.heap[g']? = some (.cells cur' 28 (0, 0)) ∧ ss.length + 1 ≤ cap' ∧ cap' ≤ maxLen ∧ cur'.size = cap' * 20 ∧ cur'.toList.take ((ss.length + 1) * 20) = ss.flatMap keyCells ++ kc.toList := by
         rcases hown'.2 with ⟨_, h0⟩ | h'
         · exact absurd h0 (by omega)
         · exact h'
       go_frame)
    | (rw [Oper.semAt_eq _ _ _ (fun c h => by cases h)]; go_simp; try go_bits))
  have hg4' : (W3.alloc (.cells kc 28)).grownBy w4 v.ownBlock := hg4
  have hL4 : w4.heap[l]? = some (.loop { apRec fn sv Bs D .ready none with state := .busy }) := (hg4'.block l (by simp; omega) (ne_of hL3 (fun cur e => by cases e))).trans ((Below.heap_alloc _ _ l (by omega)).trans hL3)
  have hK4 : w4.heap[D]? = some (.deferred (some [])) := (hg4'.block D (by simp; omega) (ne_of hK3 (fun cur e => by cases e))).trans ((Below.heap_alloc _ _ D (by omega)).trans hK3)
  obtain ⟨w5, hw5⟩ : ∃ w5, w4.setCell ⟨Bs, 0, none⟩ (.slice (some ⟨g', 0, none⟩) (ss.length + 1) cap') = w5 := ⟨_, rfl⟩
  rw [hw5]
  have hg5 : w4.grownBy w5 (some Bs) := by rw [← hw5]; exact grownBy_setCell0_q _ _ _
  have hv5 : w5.heap[Bs]? = some (.cells #[.slice (some ⟨g', 0, none⟩) (ss.length + 1) cap'] 44 (0, 0)) := by rw [← hw5]; exact heap_setCell_box_q _ hv4
  have hL5 : w5.heap[l]? = some (.loop { apRec fn sv Bs D .ready none with state := .busy }) := (hg5.block l (Array.getElem?_eq_some_iff.1 hL4).1 (fun e => hBl (by cases e; rfl))).trans hL4
  have hK5 : w5.heap[D]? = some (.deferred (some [])) := (hg5.block D (Array.getElem?_eq_some_iff.1 hK4).1 (fun e => hDB (by cases e; rfl))).trans hK4
  have hrow5 := hown'.kept hg5 (ownsRow_ne_q hown' hv4 (fun cur e => by cases e))
  have hl5 : l < w5.heap.size := (Array.getElem?_eq_some_iff.1 hL5).1
  have hb4 : Below w0.heap.size w0 w4 := (hb3.alloc hb3.size _).grown hg4' (by have := hb3.size; simp; omega) (fun k e => (hrow3.lt k e).1)
  have hb5 : Below w0.heap.size w0 w5 := hb4.grown hg5 hb4.size (fun k e => by cases e; exact h0B)
  have hk5 : KeepsWalks W w5 := ((((hk2.trans hk3).trans (KeepsWalks.alloc _ _))).trans (KeepsWalks.of_grownBy hg4' (ownsRow_not_walk_q (hrow3.alloc _)))).trans (by rw [← hw5]; exact KeepsWalks.setCell _ _ _)
  clear hw5
  refine ⟨_, _, run_endRound none hL5, rfl, ⟨⟨_, (World.putObj_heap_other hBl).trans hv5, ?_, by simp⟩, World.putObj_heap_same hl5, (World.putObj_heap_other hDl).trans hK5, hb5.grown (grownBy_putObj' _ _ _) hb5.size (fun k e => by cases e; exact h0l)⟩, hk5.trans (KeepsWalks.putObj _ hL5 rfl)⟩
  have := hrow5.kept (grownBy_putObj' w5 l (.loop { { apRec fn sv Bs D .ready none with state := .busy } with state := if (none : Option Code).isNone then .ready else .done, pending := none })) (ownsRow_ne_q hrow5 hL5 (fun cur e => by cases e))
  rw [List.flatMap_append, List.length_append]
  simpa [hkx] using this
end Go.Proofs.YtjnjcielihgagabGreatDoor

namespace Go.Proofs.YtjnjcielihgagabGreatDoor
open Go Go.RowKit Go.Shelf Go.Maps

attribute [local go_sem] Oper.semAt_some

set_option maxRecDepth 100000 in
set_option maxHeartbeats 2000000 in
theorem appendSeq_in (F : Fence) (n : Nat) (h11 : F.fn 39) (hro : F.round = none) (hn : 2 ≤ n) (g : Nat) (lb : Array Value) (hFg : F.fn g) (eg : ∀ args w, (callFunc g args).run Tryz.prog w = .ok (.enter g args) w)
    (S : List IdK → Prop) (N : Nat) (hN : N ≤ maxLen) (hNb : N * 20 ≤ 140737488355328) (w : World) (hseq : SeqGives (α := IdK) F (n - 1) Tryz.prog g lb (fun k => .agg k.kc) S N w) :
    CallsIn F n Tryz.prog 39 #[.slice none 0 0, .func (.func g) #[] lb] w fun e w' => ∃ v ss, e = .returned v ∧ S ss ∧ w'.ownsRow w.heap.size 28 20 v ss.length (ss.flatMap keyCells) ∧ (v = .slice none 0 0 ↔ ss = []) ∧ Below w.heap.size w w' := by
  have h1 : 1 ≤ n := by omega
  refine callsIn_of_wp_marks Tryz.func39 rfl h11 ?_ hro
  simp only [Tryz.ntmps39, List.size_toArray, List.length_cons, List.length_nil, Nat.reduceAdd, Nat.reduceSub, Array.replicate_succ, Array.replicate_zero, List.push_toArray, List.append_toArray, List.nil_append, List.cons_append]
  gi_wp2
  refine wpIn_rangeFunc ?_
  intro fn hfn
  rw [hro]
  obtain ⟨W0, hW0⟩ : ∃ W0, w.alloc (.cells #[.slice none 0 0] 44) = W0 := ⟨_, rfl⟩
  have hs0 : W0.heap.size = w.heap.size + 1 := by rw [← hW0]; simp
  have hv0 : W0.heap[w.heap.size]? = some (.cells #[.slice none 0 0] 44 (0, 0)) := by rw [← hW0]; exact World.alloc_heap_new w _
  have hb0 : Below w.heap.size w W0 := by rw [← hW0]; exact (Below.refl _ w).alloc (Nat.le_refl _) _
  rw [hW0]
  obtain ⟨W1, hW1⟩ : ∃ W1, (W0.alloc (.deferred (some []))).alloc (.loop (apRec fn (.func (.func g) #[] lb) w.heap.size W0.heap.size .ready none)) = W1 := ⟨_, rfl⟩
  have hold : ∀ k, k < W0.heap.size → W1.heap[k]? = W0.heap[k]? := fun k hk => by
    rw [← hW1]; exact (Below.heap_alloc _ _ k (by simp; omega)).trans (Below.heap_alloc _ _ k hk)
  have hb1 : Below w.heap.size w W1 := by rw [← hW1]; exact (hb0.alloc hb0.size _).alloc (by have := hb0.size; simp; omega) _
  have hs1 : W1.heap.size = W0.heap.size + 2 := by rw [← hW1]; simp
  have hM : ApAt w fn (.func (.func g) #[] lb) w.heap.size (W0.heap.size + 1) W0.heap.size [] W1 :=
    ⟨⟨_, (hold w.heap.size (by omega)).trans hv0, ⟨rfl, .inl ⟨rfl, rfl⟩⟩, by simp⟩,
     by rw [← hW1]; have := World.alloc_heap_new (W0.alloc (.deferred (some []))) (.loop (apRec fn (.func (.func g) #[] lb) w.heap.size W0.heap.size .ready none)); rwa [World.size_alloc] at this,
     by rw [← hW1]; exact (Below.heap_alloc _ _ _ (by simp)).trans (World.alloc_heap_new W0 _), hb1⟩
  refine ⟨W0.heap.size + 1, [{ target := .collected W0.heap.size, args := #[] }], W1, { target := .fn (.func g) lb, args := #[.func (.yield (W0.heap.size + 1)) #[] #[]] }, W1, g,
    #[.func (.yield (W0.heap.size + 1)) #[] #[]] ++ lb, W1, ?_, ?_, ?_, ?_, fun _ => h1, ?_⟩
  · rw [← hW1]; exact run_enterLoop_outer _ _ _ _ _
  · simp [resolve, go_sem]
  · intro f' hf'; simp [Target.leads] at hf'; subst hf'; exact hFg
  · simp [invoke, go_sem, eg]
  · refine (hseq (W0.heap.size + 1) (ApAt w fn (.func (.func g) #[] lb) w.heap.size (W0.heap.size + 1) W0.heap.size) W1 hb1 (ap_abides _ _ _ _ _ _ _ hb1.size)
      (fun pre x W hJ hl => apYield F (n - 1 - 1) w fn hfn _ w.heap.size (W0.heap.size + 1) W0.heap.size (by omega) (by omega) (by omega) (Nat.le_refl _) (by omega) N hN hNb pre x W hJ hl) hM).mono ?_
    rintro e W2 ⟨⟨v0, rfl⟩, ss, hS, h2⟩
    obtain ⟨v, hv, hrow, hnil⟩ := h2.box
    have hend := run_endLoop (P := Tryz.prog) h2.L (by simp [apRec])
    obtain ⟨W3, hW3⟩ : ∃ W3, W2.putObj (W0.heap.size + 1) (.loop { apRec fn (.func (.func g) #[] lb) w.heap.size W0.heap.size .ready none with state := .exhausted }) = W3 := ⟨_, rfl⟩
    rw [hW3] at hend
    have hg3 : W2.grownBy W3 (some (W0.heap.size + 1)) := by rw [← hW3]; exact grownBy_putObj' _ _ _
    have hv3 : W3.heap[w.heap.size]? = some (.cells #[v] 44 (0, 0)) := by rw [← hW3]; exact (World.putObj_heap_other (by omega)).trans hv
    have hK3 : W3.heap[W0.heap.size]? = some (.deferred (some [])) := by rw [← hW3]; exact (World.putObj_heap_other (by omega)).trans h2.K
    have hrow3 := hrow.kept hg3 (ownsRow_ne_q hrow h2.L (fun cur e => by cases e))
    have hb3 : Below w.heap.size w W3 := h2.below.grown hg3 h2.below.size (fun k e => by cases e; omega)
    obtain ⟨hc3, hf3⟩ := cell_of_box_q hv3
    clear hW3
    refine ⟨none, W3, hend, ?_⟩
    gi_wp2
    rw [← hs0]
    refine ⟨by simp, .inl ⟨_, _, rfl, run_takeDeferred hK3, ?_⟩⟩
    refine ⟨_, results_tmp rfl _ _ _, v, ss, rfl, hS, ?_, hnil, hb3.grown (grownBy_putObj' _ _ _) hb3.size (fun k e => by cases e; omega)⟩
    have := hrow3.kept (grownBy_putObj' W3 W0.heap.size (.deferred none)) (ownsRow_ne_q hrow3 hK3 (fun cur e => by cases e))
    simpa using this

theorem collect_in (F : Fence) (n : Nat) (h8 : F.fn 20) (h11 : F.fn 39) (hro : F.round = none) (hn : 3 ≤ n) (g : Nat) (lb : Array Value) (hFg : F.fn g) (eg : ∀ args w, (callFunc g args).run Tryz.prog w = .ok (.enter g args) w)
    (S : List IdK → Prop) (N : Nat) (hN : N ≤ maxLen) (hNb : N * 20 ≤ 140737488355328) (w : World) (hseq : SeqGives (α := IdK) F (n - 1 - 1) Tryz.prog g lb (fun k => .agg k.kc) S N w) :
    CallsIn F n Tryz.prog 20 #[.func (.func g) #[] lb] w fun e w' => ∃ v ss, e = .returned v ∧ S ss ∧ w'.ownsRow w.heap.size 28 20 v ss.length (ss.flatMap keyCells) ∧ (v = .slice none 0 0 ↔ ss = []) ∧ Below w.heap.size w w' := by
  have h1 : 1 ≤ n := by omega
  refine callsIn_of_wp Tryz.func20 rfl h8 ?_ hro
  simp only [Tryz.ntmps20, List.size_toArray, List.length_cons, List.length_nil, Nat.reduceAdd, Nat.reduceSub, Array.replicate_succ, Array.replicate_zero, List.push_toArray, List.append_toArray, List.nil_append, List.cons_append]
  gi_wp2_with (gi_at_call 39; refine (appendSeq_in F (n - 1) h11 hro (by omega) g lb hFg eg S N hN hNb _ hseq).mono ?_; rintro e w' ⟨v, ss, rfl, hS, hrow, hnil, hb⟩)
  gi_wp2
  refine bodyPost_ret (results_tmp rfl _ _ _) rfl ?_
  exact ⟨v, ss, rfl, hS, hrow, hnil, hb⟩

theorem collect_known (w : World) (Bm b : Nat) (es : Array MapEntry) (hkey : ∀ e ∈ es.toList, ∃ kc : Array Value, e.key = .agg kc ∧ kc.size = 20 ∧ kc.all (·.oneCell') = true) (hborn : ∀ (i : Nat) (x : MapEntry), es[i]? = some x → x.born = i) (hsz : es.size ≤ 1099511627776) (hBm : Bm < w.heap.size)
    (hm : w.cell? ⟨Bm, 0, none⟩ = some (.map (some b))) (hown : w.heap[b]? = some (.map es es.size)) :
    Calls Tryz.prog 20 #[.func (.func 22) #[] #[.pointer (some ⟨Bm, 0, none⟩)]] w fun e w' => ∃ v ss, e = .returned v ∧ ((ss.map fun k => Value.agg k.kc).Perm (es.toList.map (·.key))) ∧ w'.ownsRow w.heap.size 28 20 v ss.length (ss.flatMap keyCells) ∧ (v = .slice none 0 0 ↔ ss = []) ∧ Below w.heap.size w w' :=
  callsIn_wide.1 (collect_in Fence.wide 3 trivial trivial rfl (Nat.le_refl _) _ _ trivial (enters_of Tryz.func22 (by kernel_rfl) rfl) (fun ss => (ss.map fun k => Value.agg k.kc).Perm (es.toList.map (·.key))) es.size (by unfold maxLen; omega) (by omega) w
    (keysI_gives Fence.wide 1 trivial rfl (Nat.le_refl _) Bm b es hkey hborn w hBm hm hown))

section
variable {P : Program} {w0 : Base} {env : Env} {σ : SH} {w : World}
/-- A block that a call has made. -/
theorem Rel.adopt {w' : World} {so : SO} {g c : Nat} (h : Rel P w0 env σ w) (hb : Below w.heap.size w w') (hg : w.heap.size ≤ g) (ho : ORel P (env.push σ.next g c) w' g c so) : Rel P w0 (env.push σ.next g c) (σ.push so) w' := by
  have hnew := Env.new env σ.next g c
  have hle := h.le_push g c
  have h' := h.world hb
  have key : ∀ n y, (σ.push so).get n = some y → (n = σ.next ∧ y = so) ∨ (n ≠ σ.next ∧ σ.get n = some y) := fun n y hy => SH.get_push hy
  refine ⟨h.okay, h'.below, rfl, fun n hn => ?_, fun n y hy => ?_, fun n m y z x1 y1 hne hy hz hx1 hy1 => ?_⟩
  · have hn : σ.next + 1 ≤ n := hn
    rw [Env.push_ne _ _ _ (by omega)]; exact h.fresh n (by omega)
  · rcases key n y hy with ⟨rfl, rfl⟩ | ⟨hn, hy⟩
    · refine ⟨_, _, hnew, fun hk => ?_, ho⟩
      have := (h.below.block _ hk).1
      have := h.below.size
      omega
    · obtain ⟨b, c', h1, h2, h3⟩ := h'.obj n y hy
      exact ⟨b, c', hle.some n _ h1, h2, h3.mono hle rfl⟩
  · have old : ∀ k x, k ≠ σ.next → (∃ u, σ.get k = some u) → (env.push σ.next g c).blocks k = some x → x.1 < w.heap.size ∧ env.blocks k = some x := fun k x hk ⟨u, hu⟩ hx => by
      obtain ⟨b, c', h1, h2, h3⟩ := h.obj k u hu
      rw [Env.push_ne _ _ _ hk] at hx
      rw [hx] at h1; cases h1
      exact ⟨h3.lt, hx⟩
    rcases key n y hy with ⟨rfl, rfl⟩ | ⟨hn, hy'⟩ <;> rcases key m z hz with ⟨rfl, rfl⟩ | ⟨hm, hz'⟩
    · exact absurd rfl hne
    · have := (old m y1 hm ⟨_, hz'⟩ hy1).1
      rw [hnew] at hx1; cases hx1; simp only; omega
    · have := (old n x1 hn ⟨_, hy'⟩ hx1).1
      rw [hnew] at hy1; cases hy1; simp only; omega
    · exact h.apart n m y z x1 y1 hne hy' hz' (old n x1 hn ⟨_, hy'⟩ hx1).2 (old m y1 hm ⟨_, hz'⟩ hy1).2
end

def allInt : List SV → Bool
  | [] => true
  | .int _ _ :: r => allInt r
  | _ :: _ => false
theorem allInt_one {env : Env} : ∀ {l : List SV} {vs : List Value}, allInt l = true → denL env l = some vs → ∀ v ∈ vs, v.oneCell' = true := by
  intro l
  induction l with
  | nil => intro vs _ h; simp only [denL] at h; cases h; simp
  | cons x r ih =>
    intro vs ha h
    obtain ⟨v, us, h1, h2, rfl⟩ := denL_cons h
    cases x <;> simp only [allInt, Bool.false_eq_true] at ha
    simp only [den, Option.some.injEq] at h1; subst h1
    intro u hu
    rcases List.mem_cons.1 hu with rfl | hu
    · rfl
    · exact ih ha h2 u hu

end Go.Proofs.YtjnjcielihgagabGreatDoor

namespace Go.Proofs.YtjnjcielihgagabGreatDoor
open Go Go.RowKit Go.Shelf

set_option maxRecDepth 100000 in
set_option maxHeartbeats 2000000 in
/-- maps.Keys of a map whose entries are known: its iterator gives each once. -/
theorem keysF_gives (F : Fence) (n : Nat) (h10 : F.fn 155) (hro : F.round = none) (hn : 1 ≤ n) (Bm b : Nat) (es : Array MapEntry) (hkey : ∀ e ∈ es.toList, ∃ s : ByteArray, e.key = .string s) (hborn : ∀ (i : Nat) (x : MapEntry), es[i]? = some x → x.born = i) (w : World) (hBm : Bm < w.heap.size)
    (hm : w.cell? ⟨Bm, 0, none⟩ = some (.map (some b))) (hown : w.heap[b]? = some (.map es es.size)) :
    SeqGives (α := ByteArray) F n Tryz.prog 155 #[.pointer (some ⟨Bm, 0, none⟩)] (fun s => .string s) (fun xs => (xs.map fun s => Value.string s).Perm (es.toList.map (·.key))) es.size w := by
  intro l J W hW hJ hY h0
  have hm' : W.cell? ⟨Bm, 0, none⟩ = some (.map (some b)) := (hW.cell (p := ⟨Bm, 0, none⟩) hBm).trans hm
  have hown' : W.heap[b]? = some (.map es es.size) := (hW.block b (Array.getElem?_eq_some_iff.1 hown).1).trans hown
  have hblt : b < W.heap.size := (Array.getElem?_eq_some_iff.1 hown').1
  have hnd := born_nodup hborn
  refine callsIn_of_wp Tryz.func155 rfl h10 ?_ hro
  simp only [Tryz.ntmps155, List.size_toArray, List.length_cons, List.length_nil, Nat.reduceAdd, Nat.reduceSub, Array.replicate_succ, Array.replicate_zero, List.push_toArray, List.append_toArray, List.nil_append, List.cons_append]
  have hrg := run_range_map (P := Tryz.prog) W 219 9 _ b es es.size Tryz.underlying219 hown'
  gi_wp2_with (first
    | (gi_at_range; refine wpListIn_op_val rfl (fun c h => by cases h) (fun c h => by cases h) (v := .pointer (some ⟨W.heap.size, 0, none⟩)) (w' := W.alloc (.mapIter (some b) es.size #[] es.size)) (by simp [execOp, go_sem, hrg]) ?_)
    | gi_in)
  gi_loopw [3] (fun _ wr => ∃ (seen : Array Nat) (ys : List MapEntry) (xs : List ByteArray), wr.heap[W.heap.size]? = some (.mapIter (some b) es.size seen es.size) ∧ wr.heap[b]? = some (.map es es.size) ∧ (ys ++ (leftOf es seen).toList).Perm es.toList ∧ (xs.map fun s => Value.string s) = ys.map (·.key) ∧ J xs wr)
    (fun _ wr => (leftOf es (wr.iterSeen W.heap.size)).size)
  case atStart =>
    refine ⟨#[], [], [], World.alloc_heap_new W _, ?_, ?_, rfl, ?_⟩
    · exact (Below.heap_alloc W _ b hblt).trans hown'
    · rw [left_none]; exact List.Perm.refl _
    · exact hJ [] W _ none h0 (World.grownBy_alloc W _ none) (fun r e => by cases e)
  case round =>
    obtain ⟨seen, ys, xs, hit, hb, hperm, hxy, hJs⟩ := hrel
    have hseen : wr.iterSeen W.heap.size = seen := by simp [World.iterSeen, hit]
    rcases next_known (P := Tryz.prog) _ hit hb hborn (by omega) with ⟨hl0, hnext⟩ | ⟨e, he, w2, hnext, hg2, hs2, hit2, hb2⟩
    · gi_wp2_with (first
        | (gi_at_next; refine wpListIn_next_run rfl _ rfl rfl hnext ?_)
        | gi_in)
      go_end0
      have : (leftOf es seen).toList = [] := by
        have : (leftOf es seen) = #[] := Array.eq_empty_of_size_eq_zero hl0
        rw [this]
      rw [this, List.append_nil] at hperm
      exact ⟨⟨_, rfl⟩, xs, by rw [hxy]; exact hperm.map _, hJs⟩
    · have heL := (mem_left he).1
      obtain ⟨kc, hek⟩ := hkey e heL
      have hlen : xs.length < es.size := by
        have hxl := congrArg List.length hxy
        rw [List.length_map, List.length_map] at hxl
        have := hperm.length_eq
        rw [List.length_append] at this
        have : 0 < (leftOf es seen).toList.length := List.length_pos_of_mem he
        have e2 : es.toList.length = es.size := Array.length_toList
        omega
      have hlt : W.heap.size < wr.heap.size := (Array.getElem?_eq_some_iff.1 hit).1
      have hJ2 : J xs w2 := hJ xs wr w2 (some W.heap.size) hJs hg2 (fun r q => by cases q; exact ⟨Nat.le_refl _, _, hit, rfl⟩)
      obtain ⟨fn, tmps, assign, body, hy, hR⟩ := hY xs kc _ hJ2 hlen
      clear hs2
      gi_wp2_with (first
        | (gi_at_next; refine wpListIn_next_run rfl _ rfl rfl hnext ?_)
        | (refine wpListIn_entry_run rfl _ rfl rfl (run_entry_at _ _ _ _ _ _ _ _ hit2 hb2 heL hnd) ?_; rw [hek])
        | gi_in)
      refine hR.mono ?_
      rintro e3 W3 ⟨rfl, hJ4, hk4⟩
      have hit4 := hk4.same _ _ hit2 rfl
      have hb4 := hk4.same _ _ hb2 rfl
      gi_wp2
      go_roundw
      case rel => exact ⟨_, _, _, hit4, hb4, left_step hnd he hperm, by rw [List.map_append, List.map_append, hxy]; simp [hek], hJ4⟩
      case measure => simp only [World.iterSeen, hit, hit4]; exact left_shrinks es seen e he
end Go.Proofs.YtjnjcielihgagabGreatDoor

namespace Go.Proofs.YtjnjcielihgagabGreatDoor
open Go Go.RowKit Go.Shelf Go.Maps

attribute [local go_sem] Oper.semAt_some

theorem infoStr : (Tryz.prog.info? 9).map (fun i => (i.zero, i.size, i.bytes)) = some (some (.string ⟨#[]⟩), 1, 16) := by kernel_rfl

def apAssignS : Code := (Code.region 2 #[{ dst := some 5, op := Op.assign (Operand.tmp 7), type := 9, pos := "iter.go:51", after := #[], guard := none }] false)
def apBodyS : Code := (Code.block 1 (Code.region 3 #[{ dst := some 8, op := Op.load 72 (Operand.tmp 2), type := 72, pos := "iter.go:52", after := #[], guard := none }, { dst := some 9, op := Op.move (Operand.tmp 5), type := 9, pos := "iter.go:52", after := #[], guard := none }, { dst := some 10, op := Op.buildSlice 72 1 #[(0, Operand.tmp 9)], type := 72, pos := "iter.go:52", after := #[{ on := 1, ground := Ground.data }], guard := none }, { dst := some 11, op := Op.call { callee := Callee.builtin Builtin.append, args := #[Operand.tmp 8, Operand.tmp 10], argTypes := #[72, 72] }, type := 72, pos := "iter.go:52", after := #[{ on := 0, ground := Ground.data }, { on := 2, ground := Ground.data }], guard := none }, { dst := none, op := Op.store 72 (Operand.tmp 2) (Operand.tmp 11), type := 0, pos := "iter.go:52", after := #[{ on := 3, ground := Ground.data }, { on := 3, ground := Ground.chain }, { on := 0, ground := Ground.phase }, { on := 1, ground := Ground.phase }, { on := 2, ground := Ground.phase }, { on := 3, ground := Ground.phase }], guard := none }] false))
def apRecS (fn : FuncId) (sv : Value) (Bs D : Nat) (st : LoopState) (pend : Option Code) : Loop :=
  { state := st, pending := pend, fn, tmps := #[.slice none 0 0, sv, .pointer (some ⟨Bs, 0, none⟩), undef, .slice none 0 0, undef, sv, undef, undef, undef, undef, undef, undef], params := #[7], assign := apAssignS, body := apBodyS, defers := D }

/-- Between two rounds: the box holds a slice that owns what has come so far. -/
structure ApAtS (w0 : World) (fn : FuncId) (sv : Value) (Bs l D : Nat) (ss : List ByteArray) (W : World) : Prop where
  box : ∃ v, W.heap[Bs]? = some (.cells #[v] 72 (0, 0)) ∧ W.ownsRow w0.heap.size 9 1 v ss.length (ss.map Value.string) ∧ (v = .slice none 0 0 ↔ ss = [])
  L : W.heap[l]? = some (.loop (apRecS fn sv Bs D .ready none))
  K : W.heap[D]? = some (.deferred (some []))
  below : Below w0.heap.size w0 W

theorem apS_abides (w0 : World) (fn : FuncId) (sv : Value) (Bs l D B : Nat) (hB : w0.heap.size ≤ B) : AbidesFrom B (ApAtS w0 fn sv Bs l D) := fun s W W' row h hg hrow => by
  have hrow' : ∀ r, row = some r → ∃ o : Obj, W.heap[r]? = some o ∧ o.isWalk = true := fun r e => (hrow r e).2
  obtain ⟨v, hv, hr, hn⟩ := h.box
  exact ⟨⟨v, (grownBy_keeps hg hrow' hv rfl).trans hv, ownsRow_abides_q hr hg hrow', hn⟩, (grownBy_keeps hg hrow' h.L rfl).trans h.L, (grownBy_keeps hg hrow' h.K rfl).trans h.K,
    h.below.grown hg h.below.size (fun k e => Nat.le_trans hB (hrow k e).1)⟩

set_option maxRecDepth 100000 in
set_option maxHeartbeats 2000000 in
theorem apYieldS (F : Fence) (m : Nat) (w0 : World) (fn : FuncId) (hfn : F.fn fn) (sv : Value) (Bs l D : Nat) (hBl : Bs ≠ l) (hDl : D ≠ l) (hDB : D ≠ Bs) (h0B : w0.heap.size ≤ Bs) (h0l : w0.heap.size ≤ l)
    (N : Nat) (hN : N ≤ maxLen) (hNb : N * 16 ≤ 140737488355328) (ss : List ByteArray) (x : ByteArray) (W : World) (h : ApAtS w0 fn sv Bs l D ss W) (hlen : ss.length < N) :
    YieldAt F m Tryz.prog l #[Value.string x] W fun e W' => e = .returned (.bool true) ∧ ApAtS w0 fn sv Bs l D (ss ++ [x]) W' ∧ KeepsWalks W W' := by
  obtain ⟨i0, hi, hz0, hz1, hz2⟩ := info_parts infoStr
  obtain ⟨v, hv, hrow, _⟩ := h.box
  refine ⟨fn, #[.slice none 0 0, sv, .pointer (some ⟨Bs, 0, none⟩), undef, .slice none 0 0, undef, sv, Value.string x, undef, undef, undef, undef, undef], apAssignS, apBodyS, by simpa [apRecS] using run_yield (P := Tryz.prog) (args := #[Value.string x]) h.L rfl, roundIn_of_wpIn hfn ?_⟩
  have hl : l < W.heap.size := (Array.getElem?_eq_some_iff.1 h.L).1
  have hbr := run_beginRound (P := Tryz.prog) h.L rfl
  obtain ⟨W2, hW2⟩ : ∃ W2, W.putObj l (.loop { apRecS fn sv Bs D .ready none with state := .busy }) = W2 := ⟨_, rfl⟩
  rw [hW2] at hbr
  have hg2 : W.grownBy W2 (some l) := by rw [← hW2]; exact grownBy_putObj' _ _ _
  have hk2 : KeepsWalks W W2 := by rw [← hW2]; exact KeepsWalks.putObj _ h.L rfl
  have hv2 : W2.heap[Bs]? = some (.cells #[v] 72 (0, 0)) := by rw [← hW2]; exact (World.putObj_heap_other hBl).trans hv
  have hK2 : W2.heap[D]? = some (.deferred (some [])) := by rw [← hW2]; exact (World.putObj_heap_other hDl).trans h.K
  have hL2 : W2.heap[l]? = some (.loop { apRecS fn sv Bs D .ready none with state := .busy }) := by rw [← hW2]; exact World.putObj_heap_same hl
  have hrow2 : W2.ownsRow w0.heap.size 9 1 v ss.length (ss.map Value.string) := hrow.kept hg2 (ownsRow_ne_q hrow h.L (fun cur e => by first | cases e | exact absurd (Obj.cells.inj e).2.1 (by decide)))
  have hb2 : Below w0.heap.size w0 W2 := h.below.grown hg2 h.below.size (fun k e => by cases e; exact h0l)
  obtain ⟨hc2, hf2⟩ := cell_of_box_q hv2
  have hBlt : Bs < W2.heap.size := (Array.getElem?_eq_some_iff.1 hv2).1
  have hl2 : l < W2.heap.size := (Array.getElem?_eq_some_iff.1 hL2).1
  have hDlt : D < W2.heap.size := (Array.getElem?_eq_some_iff.1 hK2).1
  have ne_of : ∀ {j : Nat} {o : Obj}, W2.heap[j]? = some o → (∀ cur, o ≠ .cells cur 9 (0, 0)) → some j ≠ v.ownBlock := fun hj hno => by
    rcases ownsRow_ne_q hrow2 hj hno with e | e
    · rw [e]; simp
    · exact fun e' => e e'.symm
  clear hW2
  unfold apAssignS
  gi_wp2_with (rw [Oper.semAt_eq _ _ _ (fun c h => by cases h)]; go_simp; try go_bits)
  unfold apBodyS
  gi_wp2_with (first
    | (gi_at_builtin; refine wpListIn_append_own _ rfl _ _ 72 rfl w0.heap.size 9 i0 (.string ⟨#[]⟩) 1 16 Tryz.underlying72 hi hz0 hz1 hz2 rfl (by decide) _ _ _ rfl (hrow2.alloc _) ⟨W2.heap.size, 0, none⟩ 1 1 [Value.string x] rfl rfl (cell_one_new _ _ _) (by simp [Value.oneCell']) (by omega) (by omega) (by have := hb2.size; simp; omega) ?_; intro v' w3 hown' hg3 hnil3
       have hv3 : w3.heap[Bs]? = some (.cells #[v] 72 (0, 0)) := (hg3.block Bs (by simp; omega) (ne_of hv2 (fun cur e => by first | cases e | exact absurd (Obj.cells.inj e).2.1 (by decide)))).trans ((Below.heap_alloc _ _ Bs hBlt).trans hv2)
       obtain ⟨hc3, hf3⟩ := cell_of_box_q hv3
       obtain ⟨g', cap', cur', rfl, hbase', hgb', hr1, hr2, hr3, hr4⟩ : ∃ g' cap' cur', v' = .slice (some ⟨g', 0, none⟩) (ss.length + 1) cap' ∧ w0.heap.size ≤ g' ∧ w3.heap[g']? = some (.cells cur' 9 (0, 0)) ∧ ss.length + 1 ≤ cap' ∧ cap' ≤ maxLen ∧ cur'.size = cap' * 1 ∧ cur'.toList.take ((ss.length + 1) * 1) = ss.map Value.string ++ [Value.string x] := by
         rcases hown'.2 with ⟨_, h0⟩ | h'
         · exact absurd h0 (by omega)
         · exact h'
       go_frame)
    | (rw [Oper.semAt_eq _ _ _ (fun c h => by cases h)]; go_simp; try go_bits))
  have hg3' : (W2.alloc (.cells #[Value.string x] 9)).grownBy w3 v.ownBlock := hg3
  have hL3 : w3.heap[l]? = some (.loop { apRecS fn sv Bs D .ready none with state := .busy }) := (hg3'.block l (by simp; omega) (ne_of hL2 (fun cur e => by first | cases e | exact absurd (Obj.cells.inj e).2.1 (by decide)))).trans ((Below.heap_alloc _ _ l hl2).trans hL2)
  have hK3 : w3.heap[D]? = some (.deferred (some [])) := (hg3'.block D (by simp; omega) (ne_of hK2 (fun cur e => by first | cases e | exact absurd (Obj.cells.inj e).2.1 (by decide)))).trans ((Below.heap_alloc _ _ D hDlt).trans hK2)
  obtain ⟨w4, hw4⟩ : ∃ w4, w3.setCell ⟨Bs, 0, none⟩ (.slice (some ⟨g', 0, none⟩) (ss.length + 1) cap') = w4 := ⟨_, rfl⟩
  rw [hw4]
  have hg4 : w3.grownBy w4 (some Bs) := by rw [← hw4]; exact grownBy_setCell0_q _ _ _
  have hv4 : w4.heap[Bs]? = some (.cells #[.slice (some ⟨g', 0, none⟩) (ss.length + 1) cap'] 72 (0, 0)) := by rw [← hw4]; exact heap_setCell_box_q _ hv3
  have hL4 : w4.heap[l]? = some (.loop { apRecS fn sv Bs D .ready none with state := .busy }) := (hg4.block l (Array.getElem?_eq_some_iff.1 hL3).1 (fun e => hBl (by cases e; rfl))).trans hL3
  have hK4 : w4.heap[D]? = some (.deferred (some [])) := (hg4.block D (Array.getElem?_eq_some_iff.1 hK3).1 (fun e => hDB (by cases e; rfl))).trans hK3
  have hrow4 := hown'.kept hg4 (ownsRow_ne_q hown' hv3 (fun cur e => by first | cases e | exact absurd (Obj.cells.inj e).2.1 (by decide)))
  have hl4 : l < w4.heap.size := (Array.getElem?_eq_some_iff.1 hL4).1
  have hb3 : Below w0.heap.size w0 w3 := (hb2.alloc hb2.size _).grown hg3' (by have := hb2.size; simp; omega) (fun k e => (hrow2.lt k e).1)
  have hb4 : Below w0.heap.size w0 w4 := hb3.grown hg4 hb3.size (fun k e => by cases e; exact h0B)
  have hk4 : KeepsWalks W w4 := ((hk2.trans (KeepsWalks.alloc _ _)).trans (KeepsWalks.of_grownBy hg3' (ownsRow_not_walk_q (hrow2.alloc _)))).trans (by rw [← hw4]; exact KeepsWalks.setCell _ _ _)
  clear hw4
  refine ⟨_, _, run_endRound none hL4, rfl, ⟨⟨_, (World.putObj_heap_other hBl).trans hv4, ?_, by simp⟩, World.putObj_heap_same hl4, (World.putObj_heap_other hDl).trans hK4, hb4.grown (grownBy_putObj' _ _ _) hb4.size (fun k e => by cases e; exact h0l)⟩, hk4.trans (KeepsWalks.putObj _ hL4 rfl)⟩
  have := hrow4.kept (grownBy_putObj' w4 l (.loop { { apRecS fn sv Bs D .ready none with state := .busy } with state := if (none : Option Code).isNone then .ready else .done, pending := none })) (ownsRow_ne_q hrow4 hL4 (fun cur e => by first | cases e | exact absurd (Obj.cells.inj e).2.1 (by decide)))
  simpa using this


set_option maxRecDepth 100000 in
set_option maxHeartbeats 2000000 in
theorem appendSeqS_in (F : Fence) (n : Nat) (h11 : F.fn 58) (hro : F.round = none) (hn : 2 ≤ n) (g : Nat) (lb : Array Value) (hFg : F.fn g) (eg : ∀ args w, (callFunc g args).run Tryz.prog w = .ok (.enter g args) w)
    (S : List ByteArray → Prop) (N : Nat) (hN : N ≤ maxLen) (hNb : N * 16 ≤ 140737488355328) (w : World) (hseq : SeqGives (α := ByteArray) F (n - 1) Tryz.prog g lb (fun s => Value.string s) S N w) :
    CallsIn F n Tryz.prog 58 #[.slice none 0 0, .func (.func g) #[] lb] w fun e w' => ∃ v ss, e = .returned v ∧ S ss ∧ w'.ownsRow w.heap.size 9 1 v ss.length (ss.map Value.string) ∧ (v = .slice none 0 0 ↔ ss = []) ∧ Below w.heap.size w w' := by
  have h1 : 1 ≤ n := by omega
  refine callsIn_of_wp_marks Tryz.func58 rfl h11 ?_ hro
  simp only [Tryz.ntmps58, List.size_toArray, List.length_cons, List.length_nil, Nat.reduceAdd, Nat.reduceSub, Array.replicate_succ, Array.replicate_zero, List.push_toArray, List.append_toArray, List.nil_append, List.cons_append]
  gi_wp2
  refine wpIn_rangeFunc ?_
  intro fn hfn
  rw [hro]
  obtain ⟨W0, hW0⟩ : ∃ W0, w.alloc (.cells #[.slice none 0 0] 72) = W0 := ⟨_, rfl⟩
  have hs0 : W0.heap.size = w.heap.size + 1 := by rw [← hW0]; simp
  have hv0 : W0.heap[w.heap.size]? = some (.cells #[.slice none 0 0] 72 (0, 0)) := by rw [← hW0]; exact World.alloc_heap_new w _
  have hb0 : Below w.heap.size w W0 := by rw [← hW0]; exact (Below.refl _ w).alloc (Nat.le_refl _) _
  rw [hW0]
  obtain ⟨W1, hW1⟩ : ∃ W1, (W0.alloc (.deferred (some []))).alloc (.loop (apRecS fn (.func (.func g) #[] lb) w.heap.size W0.heap.size .ready none)) = W1 := ⟨_, rfl⟩
  have hold : ∀ k, k < W0.heap.size → W1.heap[k]? = W0.heap[k]? := fun k hk => by
    rw [← hW1]; exact (Below.heap_alloc _ _ k (by simp; omega)).trans (Below.heap_alloc _ _ k hk)
  have hb1 : Below w.heap.size w W1 := by rw [← hW1]; exact (hb0.alloc hb0.size _).alloc (by have := hb0.size; simp; omega) _
  have hs1 : W1.heap.size = W0.heap.size + 2 := by rw [← hW1]; simp
  have hM : ApAtS w fn (.func (.func g) #[] lb) w.heap.size (W0.heap.size + 1) W0.heap.size [] W1 :=
    ⟨⟨_, (hold w.heap.size (by omega)).trans hv0, ⟨rfl, .inl ⟨rfl, rfl⟩⟩, by simp⟩,
     by rw [← hW1]; have := World.alloc_heap_new (W0.alloc (.deferred (some []))) (.loop (apRecS fn (.func (.func g) #[] lb) w.heap.size W0.heap.size .ready none)); rwa [World.size_alloc] at this,
     by rw [← hW1]; exact (Below.heap_alloc _ _ _ (by simp)).trans (World.alloc_heap_new W0 _), hb1⟩
  refine ⟨W0.heap.size + 1, [{ target := .collected W0.heap.size, args := #[] }], W1, { target := .fn (.func g) lb, args := #[.func (.yield (W0.heap.size + 1)) #[] #[]] }, W1, g,
    #[.func (.yield (W0.heap.size + 1)) #[] #[]] ++ lb, W1, ?_, ?_, ?_, ?_, fun _ => h1, ?_⟩
  · rw [← hW1]; exact run_enterLoop_outer _ _ _ _ _
  · simp [resolve, go_sem]
  · intro f' hf'; simp [Target.leads] at hf'; subst hf'; exact hFg
  · simp [invoke, go_sem, eg]
  · refine (hseq (W0.heap.size + 1) (ApAtS w fn (.func (.func g) #[] lb) w.heap.size (W0.heap.size + 1) W0.heap.size) W1 hb1 (apS_abides _ _ _ _ _ _ _ hb1.size)
      (fun pre x W hJ hl => apYieldS F (n - 1 - 1) w fn hfn _ w.heap.size (W0.heap.size + 1) W0.heap.size (by omega) (by omega) (by omega) (Nat.le_refl _) (by omega) N hN hNb pre x W hJ hl) hM).mono ?_
    rintro e W2 ⟨⟨v0, rfl⟩, ss, hS, h2⟩
    obtain ⟨v, hv, hrow, hnil⟩ := h2.box
    have hend := run_endLoop (P := Tryz.prog) h2.L (by simp [apRecS])
    obtain ⟨W3, hW3⟩ : ∃ W3, W2.putObj (W0.heap.size + 1) (.loop { apRecS fn (.func (.func g) #[] lb) w.heap.size W0.heap.size .ready none with state := .exhausted }) = W3 := ⟨_, rfl⟩
    rw [hW3] at hend
    have hg3 : W2.grownBy W3 (some (W0.heap.size + 1)) := by rw [← hW3]; exact grownBy_putObj' _ _ _
    have hv3 : W3.heap[w.heap.size]? = some (.cells #[v] 72 (0, 0)) := by rw [← hW3]; exact (World.putObj_heap_other (by omega)).trans hv
    have hK3 : W3.heap[W0.heap.size]? = some (.deferred (some [])) := by rw [← hW3]; exact (World.putObj_heap_other (by omega)).trans h2.K
    have hrow3 := hrow.kept hg3 (ownsRow_ne_q hrow h2.L (fun cur e => by cases e))
    have hb3 : Below w.heap.size w W3 := h2.below.grown hg3 h2.below.size (fun k e => by cases e; omega)
    obtain ⟨hc3, hf3⟩ := cell_of_box_q hv3
    clear hW3
    refine ⟨none, W3, hend, ?_⟩
    gi_wp2
    rw [← hs0]
    refine ⟨by simp, .inl ⟨_, _, rfl, run_takeDeferred hK3, ?_⟩⟩
    refine ⟨_, results_tmp rfl _ _ _, v, ss, rfl, hS, ?_, hnil, hb3.grown (grownBy_putObj' _ _ _) hb3.size (fun k e => by cases e; omega)⟩
    have := hrow3.kept (grownBy_putObj' W3 W0.heap.size (.deferred none)) (ownsRow_ne_q hrow3 hK3 (fun cur e => by cases e))
    simpa using this

theorem collectS_in (F : Fence) (n : Nat) (h8 : F.fn 35) (h11 : F.fn 58) (hro : F.round = none) (hn : 3 ≤ n) (g : Nat) (lb : Array Value) (hFg : F.fn g) (eg : ∀ args w, (callFunc g args).run Tryz.prog w = .ok (.enter g args) w)
    (S : List ByteArray → Prop) (N : Nat) (hN : N ≤ maxLen) (hNb : N * 16 ≤ 140737488355328) (w : World) (hseq : SeqGives (α := ByteArray) F (n - 1 - 1) Tryz.prog g lb (fun s => Value.string s) S N w) :
    CallsIn F n Tryz.prog 35 #[.func (.func g) #[] lb] w fun e w' => ∃ v ss, e = .returned v ∧ S ss ∧ w'.ownsRow w.heap.size 9 1 v ss.length (ss.map Value.string) ∧ (v = .slice none 0 0 ↔ ss = []) ∧ Below w.heap.size w w' := by
  have h1 : 1 ≤ n := by omega
  refine callsIn_of_wp Tryz.func35 rfl h8 ?_ hro
  simp only [Tryz.ntmps35, List.size_toArray, List.length_cons, List.length_nil, Nat.reduceAdd, Nat.reduceSub, Array.replicate_succ, Array.replicate_zero, List.push_toArray, List.append_toArray, List.nil_append, List.cons_append]
  gi_wp2_with (gi_at_call 58; refine (appendSeqS_in F (n - 1) h11 hro (by omega) g lb hFg eg S N hN hNb _ hseq).mono ?_; rintro e w' ⟨v, ss, rfl, hS, hrow, hnil, hb⟩)
  gi_wp2
  refine bodyPost_ret (results_tmp rfl _ _ _) rfl ?_
  exact ⟨v, ss, rfl, hS, hrow, hnil, hb⟩

theorem collectF_known (w : World) (Bm b : Nat) (es : Array MapEntry) (hkey : ∀ e ∈ es.toList, ∃ s : ByteArray, e.key = .string s) (hborn : ∀ (i : Nat) (x : MapEntry), es[i]? = some x → x.born = i) (hsz : es.size ≤ 1099511627776) (hBm : Bm < w.heap.size)
    (hm : w.cell? ⟨Bm, 0, none⟩ = some (.map (some b))) (hown : w.heap[b]? = some (.map es es.size)) :
    Calls Tryz.prog 35 #[.func (.func 155) #[] #[.pointer (some ⟨Bm, 0, none⟩)]] w fun e w' => ∃ v ss, e = .returned v ∧ ((ss.map fun s => Value.string s).Perm (es.toList.map (·.key))) ∧ w'.ownsRow w.heap.size 9 1 v ss.length (ss.map Value.string) ∧ (v = .slice none 0 0 ↔ ss = []) ∧ Below w.heap.size w w' :=
  callsIn_wide.1 (collectS_in Fence.wide 3 trivial trivial rfl (Nat.le_refl _) _ _ trivial (enters_of Tryz.func155 (by kernel_rfl) rfl) (fun ss => (ss.map fun s => Value.string s).Perm (es.toList.map (·.key))) es.size (by unfold maxLen; omega) (by omega) w
    (keysF_gives Fence.wide 1 trivial rfl (Nat.le_refl _) Bm b es hkey hborn w hBm hm hown))
end Go.Proofs.YtjnjcielihgagabGreatDoor

namespace Go.Proofs.YtjnjcielihgagabGreatDoor
open Go Go.RowKit

set_option maxRecDepth 100000 in
theorem indexByte_any (s : ByteArray) (c : Int) (w : World) :
    Calls Tryz.prog 193 #[.string s, .int .u8 c] w fun e w' => e = .returned (.int .i64 (Lib.indexByte s.data.toList c.toNat.toUInt8)) ∧ w' = w := by
  go_enter Tryz.func193, Tryz.ntmps193
  go_wp2_with fail
  rw [run_callFunc_extern Tryz.func223 (by kernel_rfl) (by kernel_rfl) (by kernel_rfl) (e := Extern.BytealgIndexByte.indexByte) (by kernel_rfl), Lib.run_indexByteString]
  simp only [Result.andThen]
  rw [Oper.upon_value]
  go_wp2_with fail
  go_ret
  exact ⟨rfl, rfl⟩

set_option maxRecDepth 100000 in
theorem compareString_any (a b : ByteArray) (w : World) :
    Calls Tryz.prog 38 #[.string a, .string b] w fun e w' => e = .returned (.int .i64 (Lib.compareBytes a.data.toList b.data.toList)) ∧ w' = w := by
  go_enter Tryz.func38, Tryz.ntmps38
  go_wp2_with fail
  rw [run_callFunc_extern Tryz.func60 (by kernel_rfl) (by kernel_rfl) (by kernel_rfl) (e := Extern.BytealgCompare.compare) (by kernel_rfl), Lib.run_compareString]
  simp only [Result.andThen]
  rw [Oper.upon_value]
  go_wp2_with fail
  go_ret
  exact ⟨rfl, rfl⟩

/-- Where a byte stands first. -/
noncomputable def idxN (c : Nat) (l : List Nat) : Nat → Option Nat :=
  @List.rec Nat (fun _ => Nat → Option Nat) (fun _ => none) (fun x _ ih i => @Bool.rec (fun _ => Option Nat) (ih (Nat.succ i)) (some i) (Nat.beq (Nat.mod x 256) c)) l
noncomputable def idxS (c : Nat) (l : List Nat) : Int := match idxN c l 0 with
  | some i => (i : Nat)
  | none => -1
theorem idxN_ok (c : Nat) (hc : c < 256) : ∀ (l : List Nat) (i : Nat), (match idxN c l i with
    | some k => Lib.indexByte (l.map UInt8.ofNat) (UInt8.ofNat c) + i = (k : Nat) ∧ 0 ≤ Lib.indexByte (l.map UInt8.ofNat) (UInt8.ofNat c)
    | none => Lib.indexByte (l.map UInt8.ofNat) (UInt8.ofNat c) = -1) := by
  intro l
  induction l with
  | nil => intro i; rfl
  | cons x r ih =>
    intro i
    have hb : ((UInt8.ofNat x) == (UInt8.ofNat c)) = Nat.beq (Nat.mod x 256) c := by
      have e1 : ((UInt8.ofNat x) == (UInt8.ofNat c)) = decide (x % 256 = c % 256) := by
        have := u8_eq x c
        rw [this]; rfl
      rw [e1, Nat.mod_eq_of_lt hc]
      cases h : Nat.beq (Nat.mod x 256) c with
      | true => exact decide_eq_true (Nat.eq_of_beq_eq_true h)
      | false => exact decide_eq_false (Nat.ne_of_beq_eq_false h)
    show (match @Bool.rec (fun _ => Option Nat) (idxN c r (Nat.succ i)) (some i) (Nat.beq (Nat.mod x 256) c) with
      | some k => Lib.indexByte (UInt8.ofNat x :: r.map UInt8.ofNat) (UInt8.ofNat c) + i = (k : Nat) ∧ 0 ≤ Lib.indexByte (UInt8.ofNat x :: r.map UInt8.ofNat) (UInt8.ofNat c)
      | none => Lib.indexByte (UInt8.ofNat x :: r.map UInt8.ofNat) (UInt8.ofNat c) = -1)
    simp only [Lib.indexByte, hb]
    cases h : Nat.beq (Nat.mod x 256) c with
    | true => simp
    | false =>
      have hi := ih (i + 1)
      show (match idxN c r (i + 1) with
        | some k => _
        | none => _)
      cases hk : idxN c r (i + 1) with
      | some k =>
        rw [hk] at hi
        obtain ⟨h1, h2⟩ := hi
        have hne : ¬ ((Lib.indexByte (r.map UInt8.ofNat) (UInt8.ofNat c) == -1) = true) := by
          intro he
          have := eq_of_beq he
          omega
        simp only [Bool.false_eq_true, if_false, hne]
        omega
      | none =>
        rw [hk] at hi
        simp only at hi
        simp [hi]
theorem idxS_ok (c : Nat) (hc : c < 256) (l : List Nat) : Lib.indexByte (bytesOf l).data.toList (UInt8.ofNat c) = idxS c l := by
  rw [bytesOf_list]
  have h := idxN_ok c hc l 0
  unfold idxS
  cases hk : idxN c l 0 with
  | some k => rw [hk] at h; have := h.1; simp only; omega
  | none => rw [hk] at h; exact h
noncomputable def cmpS (a b : List Nat) : Int := @Bool.rec (fun _ => Int) (@Bool.rec (fun _ => Int) 1 0 (eqBytes a b)) (-1) (ltBytes a b)
theorem cmpS_ok : ∀ (a b : List Nat), Lib.compareBytes (a.map UInt8.ofNat) (b.map UInt8.ofNat) = cmpS a b := by
  intro a
  induction a with
  | nil => intro b; cases b <;> rfl
  | cons x r ih =>
    intro b
    cases b with
    | nil => rfl
    | cons y s =>
      have hlt : ∀ p q : Nat, (UInt8.ofNat p < UInt8.ofNat q) ↔ p % 256 < q % 256 := fun p q => by
        rw [UInt8.lt_iff_toNat_lt]; simp
      simp only [List.map_cons, Lib.compareBytes, hlt, ih]
      unfold cmpS
      simp only [ltBytes, eqBytes]
      by_cases h1 : x % 256 < y % 256
      · simp [h1]
      · by_cases h2 : y % 256 < x % 256
        · have h3 : (x % 256 == y % 256) = false := by simp; omega
          rw [h3]; simp [h1, h2]
        · have h3 : x % 256 = y % 256 := by omega
          simp [h3]

noncomputable def indexOut (args : List SV) (σ : SH) : Option Outs := match args with
  | [.str l, .int .u8 (.ofNat c)] => @Bool.rec (fun _ => Option Outs) none (some [(.int .i64 (idxS c l), σ)]) (Nat.blt c 256)
  | _ => none
theorem indexOut_ok (b : Base) {args : List SV} {σ : SH} {outs : Outs} {env : Env} {w : World} {vs : List Value} (h : indexOut args σ = some outs) (hr : Rel Tryz.prog b env σ w) (ha : denL env args = some vs) :
    Calls Tryz.prog 193 vs.toArray w (Comes1 Tryz.prog b env outs) := by
  unfold indexOut at h
  split at h
  · rename_i l c
    cases hc : Nat.blt c 256 with
    | false => rw [hc] at h; cases h
    | true =>
      rw [hc] at h
      replace h : some [(SV.int .i64 (idxS c l), σ)] = some outs := h
      cases h
      have hc : c < 256 := Nat.le_of_ble_eq_true hc
      obtain ⟨v, us, h1, h2, rfl⟩ := denL_cons ha
      obtain ⟨v2, us2, h3, h4, rfl⟩ := denL_cons h2
      simp only [den, Option.some.injEq] at h1 h3; subst h1; subst h3
      simp only [denL] at h4; cases h4
      refine (indexByte_any (bytesOf l) (c : Nat) w).mono ?_
      rintro e w' ⟨rfl, rfl⟩
      refine ⟨_, List.mem_singleton.2 rfl, env, _, rfl, Env.le_refl _, hr, ?_⟩
      simp only [den]
      rw [← idxS_ok c hc l]
      rfl
  · cases h
noncomputable def compareOut (args : List SV) (σ : SH) : Option Outs := match args with
  | [.str l, .str m] => some [(.int .i64 (cmpS l m), σ)]
  | _ => none
theorem compareOut_ok (b : Base) {args : List SV} {σ : SH} {outs : Outs} {env : Env} {w : World} {vs : List Value} (h : compareOut args σ = some outs) (hr : Rel Tryz.prog b env σ w) (ha : denL env args = some vs) :
    Calls Tryz.prog 38 vs.toArray w (Comes1 Tryz.prog b env outs) := by
  unfold compareOut at h
  split at h
  · rename_i l m; cases h
    obtain ⟨v, us, h1, h2, rfl⟩ := denL_cons ha
    obtain ⟨v2, us2, h3, h4, rfl⟩ := denL_cons h2
    simp only [den, Option.some.injEq] at h1 h3; subst h1; subst h3
    simp only [denL] at h4; cases h4
    refine (compareString_any (bytesOf l) (bytesOf m) w).mono ?_
    rintro e w' ⟨rfl, rfl⟩
    refine ⟨_, List.mem_singleton.2 rfl, env, _, rfl, Env.le_refl _, hr, ?_⟩
    simp only [den]
    rw [bytesOf_list, bytesOf_list, cmpS_ok]
  · cases h

set_option maxRecDepth 100000 in
theorem count1_aux (s : ByteArray) (c : UInt8) (w : World) :
    Calls Tryz.prog 206 #[.string s, .string ⟨#[c]⟩] w fun e w' => e = .returned (.int .i64 (Lib.countByte s.data.toList c)) ∧ w' = w := by
  go_enter Tryz.func206, Tryz.ntmps206
  go_wp2
  rw [run_callFunc_extern Tryz.func233 (by kernel_rfl) (by kernel_rfl) (by kernel_rfl) (e := Extern.BytealgCount.count) (by kernel_rfl), Lib.run_countString]
  simp only [Result.andThen]
  rw [Oper.upon_value]
  go_wp2
  go_ret
  exact ⟨rfl, rfl⟩
noncomputable def cntN (c : Nat) (l : List Nat) : Nat :=
  @List.rec Nat (fun _ => Nat) 0 (fun x _ ih => @Bool.rec (fun _ => Nat) ih (Nat.succ ih) (Nat.beq (Nat.mod x 256) c)) l
theorem cntN_ok (c : Nat) (hc : c < 256) : ∀ l : List Nat, Lib.countByte (l.map UInt8.ofNat) (UInt8.ofNat c) = cntN c l := by
  intro l
  induction l with
  | nil => rfl
  | cons x r ih =>
    have hb : ((UInt8.ofNat x) == (UInt8.ofNat c)) = Nat.beq (Nat.mod x 256) c := by
      have e1 : ((UInt8.ofNat x) == (UInt8.ofNat c)) = decide (x % 256 = c % 256) := by
        have := u8_eq x c
        rw [this]; rfl
      rw [e1, Nat.mod_eq_of_lt hc]
      cases h : Nat.beq (Nat.mod x 256) c with
      | true => exact decide_eq_true (Nat.eq_of_beq_eq_true h)
      | false => exact decide_eq_false (Nat.ne_of_beq_eq_false h)
    unfold Lib.countByte at ih ⊢
    rw [List.map_cons, List.count_cons, hb, ih]
    show _ = @Bool.rec (fun _ => Nat) (cntN c r) (Nat.succ (cntN c r)) (Nat.beq (Nat.mod x 256) c)
    cases Nat.beq (Nat.mod x 256) c <;> simp
noncomputable def countOut (args : List SV) (σ : SH) : Option Outs := match args with
  | [.str l, .str [c]] => @Bool.rec (fun _ => Option Outs) none (some [(.int .i64 (cntN c l : Nat), σ)]) (Nat.blt c 256)
  | _ => none
theorem countOut_ok (b : Base) {args : List SV} {σ : SH} {outs : Outs} {env : Env} {w : World} {vs : List Value} (h : countOut args σ = some outs) (hr : Rel Tryz.prog b env σ w) (ha : denL env args = some vs) :
    Calls Tryz.prog 206 vs.toArray w (Comes1 Tryz.prog b env outs) := by
  unfold countOut at h
  split at h
  · rename_i l c
    cases hc : Nat.blt c 256 with
    | false => rw [hc] at h; cases h
    | true =>
      rw [hc] at h
      replace h : some [(SV.int .i64 (cntN c l : Nat), σ)] = some outs := h
      cases h
      have hc : c < 256 := Nat.le_of_ble_eq_true hc
      obtain ⟨v, us, h1, h2, rfl⟩ := denL_cons ha
      obtain ⟨v2, us2, h3, h4, rfl⟩ := denL_cons h2
      simp only [den, Option.some.injEq] at h1 h3; subst h1; subst h3
      simp only [denL] at h4; cases h4
      refine (count1_aux (bytesOf l) (UInt8.ofNat c) w).mono ?_
      rintro e w' ⟨rfl, rfl⟩
      refine ⟨_, List.mem_singleton.2 rfl, env, _, rfl, Env.le_refl _, hr, ?_⟩
      simp only [den]
      rw [bytesOf_list, cntN_ok c hc]
  · cases h
end Go.Proofs.YtjnjcielihgagabGreatDoor

namespace Go.Proofs.YtjnjcielihgagabGreatDoor
open Go Go.RowKit

section
variable {P : Program} {w0 : Base} {env : Env} {σ : SH} {w : World}
/-- What bytes a row holds. -/
def BytesAt (w : World) (b off : Nat) (bs : List Nat) : Prop := ∀ (j x : Nat), bs[j]? = some x → w.cell? ⟨b, off + j, none⟩ = some (.int .u8 ((UInt8.ofNat x).toNat : Nat))
theorem Rel.bytesAt (h : Rel P w0 env σ w) {n b c off len : Nat} {l : List SV} {e : TypeId} {ex : Bool} {bs : List Nat} (hn : σ.get n = some (.cells l e ex)) (he : env.blocks n = some (b, c)) (hk : off + len ≤ l.length)
    (hb : byteCells ((l.drop off).take len) = some bs) : bs.length = len ∧ BytesAt w b off bs := by
  have hd := byteCells_den (env := env) hb
  have hl := denL_length hd
  rw [List.length_map, List.length_map, List.length_take, List.length_drop, Nat.min_eq_left (by omega)] at hl
  refine ⟨hl, fun j x hx => ?_⟩
  have hj : j < bs.length := (List.getElem?_eq_some_iff.1 hx).1
  obtain ⟨v, hv, hc, _⟩ := h.cell hn he (List.getElem?_eq_getElem (show off + j < l.length by omega))
  obtain ⟨v', hv', hd'⟩ := denL_get hd (i := j) (s := l[off + j]) (by rw [List.getElem?_take, if_pos (by omega), List.getElem?_drop]; exact List.getElem?_eq_getElem (by omega))
  rw [hd'] at hv; cases hv
  rw [hc]
  rw [List.getElem?_map, List.getElem?_map, hx] at hv'
  exact hv'.symm
theorem run_loadBytes (b : Nat) : ∀ (bs : List Nat) (off : Nat) (acc : ByteArray), BytesAt w b off bs → (Extern.Bytes.loadBytes ⟨b, off, none⟩ bs.length acc).run P w = .ok ⟨acc.data ++ (bs.map UInt8.ofNat).toArray⟩ w := by
  intro bs
  induction bs with
  | nil => intro off acc _; simp [Extern.Bytes.loadBytes]
  | cons x r ih =>
    intro off acc h
    have h0 := h 0 x rfl
    rw [Nat.add_zero] at h0
    have hr : BytesAt w b (off + 1) r := fun j y hy => by
      have := h (j + 1) y (by simpa using hy)
      rw [show off + 1 + j = off + (j + 1) by omega]; exact this
    have hl : (load (⟨b, off, none⟩ : Addr)).run P w = .ok (.int .u8 ((UInt8.ofNat x).toNat : Nat)) w := by simp [h0]
    simp only [List.length_cons, Extern.Bytes.loadBytes, Sem.run_bind, hl, Result.andThen_ok, add_none]
    rw [ih (off + 1) _ hr]
    congr 2
    have hx : (((UInt8.ofNat x).toNat : Nat) : Int).toNat.toUInt8 = UInt8.ofNat x := by rw [Int.toNat_natCast]; exact UInt8.ofNat_toNat
    rw [hx]
    apply Array.ext'
    simp [ByteArray.push]
theorem run_bytesOf_slice (b off cap : Nat) (bs : List Nat) (h : BytesAt w b off bs) : (Extern.Bytes.bytesOf (.slice (some ⟨b, off, none⟩) bs.length cap)).run P w = .ok (bytesOf bs) w := by
  simp only [Extern.Bytes.bytesOf]
  rw [run_loadBytes b bs off .empty h]
  congr 1
  unfold _root_.Go.Proofs.YtjnjcielihgagabGreatDoor.bytesOf
  congr 1
  show (#[] : Array UInt8) ++ _ = _
  simp
theorem run_compareSlices (b off cap b' off' cap' : Nat) (bs cs : List Nat) (h : BytesAt w b off bs) (h' : BytesAt w b' off' cs) :
    (Extern.BytealgCompare.compare #[.slice (some ⟨b, off, none⟩) bs.length cap, .slice (some ⟨b', off', none⟩) cs.length cap']).run P w = .ok (.int .i64 (cmpS bs cs)) w := by
  change Sem.run P (do pure (goInt (Extern.BytealgCompare.cmp (← Extern.Bytes.bytesOf (.slice (some ⟨b, off, none⟩) bs.length cap)) (← Extern.Bytes.bytesOf (.slice (some ⟨b', off', none⟩) cs.length cap'))))) w = _
  simp only [Sem.run_bind, run_bytesOf_slice b off cap bs h, run_bytesOf_slice b' off' cap' cs h', Sem.run_pure, Result.andThen]
  rw [Lib.cmp_eq, bytesOf_list, bytesOf_list, cmpS_ok]
  rfl
end

set_option maxRecDepth 100000 in
theorem bytesCompare_any (b off cap b' off' cap' : Nat) (bs cs : List Nat) (w : World) (h : BytesAt w b off bs) (h' : BytesAt w b' off' cs) :
    Calls Tryz.prog 23 #[.slice (some ⟨b, off, none⟩) bs.length cap, .slice (some ⟨b', off', none⟩) cs.length cap'] w fun e w' => e = .returned (.int .i64 (cmpS bs cs)) ∧ w' = w := by
  have hc := run_compareSlices (P := Tryz.prog) (w := w) b off cap b' off' cap' bs cs h h'
  generalize bs.length = m at hc ⊢
  generalize cs.length = n at hc ⊢
  generalize cmpS bs cs = r at hc ⊢
  go_enter Tryz.func23, Tryz.ntmps23
  go_wp2_with fail
  rw [run_callFunc_extern Tryz.func42 (by kernel_rfl) (by kernel_rfl) (by kernel_rfl) (e := Extern.BytealgCompare.compare) (by kernel_rfl), hc]
  simp only [Result.andThen]
  rw [Oper.upon_value]
  go_wp2_with fail
  go_ret
  exact ⟨rfl, rfl⟩

noncomputable def compareBOut (args : List SV) (σ : SH) : Option Outs := match args with
  | [.slice n off len _, .slice m off' len' _] => match σ.get n, σ.get m with
    | some (.cells l _ _), some (.cells k _ _) => match byteCells ((l.drop off).take len), byteCells ((k.drop off').take len') with
      | some bs, some cs => @Bool.rec (fun _ => Option Outs) none (some [(.int .i64 (cmpS bs cs), σ)]) (Nat.ble (off + len) l.length && Nat.ble (off' + len') k.length)
      | _, _ => none
    | _, _ => none
  | _ => none
theorem compareBOut_ok (b : Base) {args : List SV} {σ : SH} {outs : Outs} {env : Env} {w : World} {vs : List Value} (h : compareBOut args σ = some outs) (hr : Rel Tryz.prog b env σ w) (ha : denL env args = some vs) :
    Calls Tryz.prog 23 vs.toArray w (Comes1 Tryz.prog b env outs) := by
  unfold compareBOut at h
  split at h
  · rename_i n off len c m off' len' c'
    split at h
    · rename_i l e1 x1 k e2 x2 hn hm
      split at h
      · rename_i bs cs hbs hcs
        cases hc : (Nat.ble (off + len) l.length && Nat.ble (off' + len') k.length) with
        | false => rw [hc] at h; cases h
        | true =>
          rw [hc] at h
          replace h : some [(SV.int .i64 (cmpS bs cs), σ)] = some outs := h
          cases h
          rw [Bool.and_eq_true] at hc
          have k1 := Nat.le_of_ble_eq_true hc.1
          have k2 := Nat.le_of_ble_eq_true hc.2
          obtain ⟨v, us, h1, h2, rfl⟩ := denL_cons ha
          obtain ⟨v2, us2, h3, h4, rfl⟩ := denL_cons h2
          simp only [denL] at h4; cases h4
          obtain ⟨b1, q1, he1, rfl⟩ := den_slice h1
          obtain ⟨b2, q2, he2, rfl⟩ := den_slice h3
          obtain ⟨l1, hb1⟩ := hr.bytesAt hn he1 k1 hbs
          obtain ⟨l2, hb2⟩ := hr.bytesAt hm he2 k2 hcs
          subst l1; subst l2
          refine (bytesCompare_any b1 off _ b2 off' _ bs cs w hb1 hb2).mono ?_
          rintro e w' ⟨rfl, rfl⟩
          exact ⟨_, List.mem_singleton.2 rfl, env, _, rfl, Env.le_refl _, hr, by simp only [den]⟩
      · cases h
    · cases h
  · cases h

section
variable {P : Program} {w : World}
theorem run_indexSlice (b off cap : Nat) (bs : List Nat) (c : Nat) (hc : c < 256) (h : BytesAt w b off bs) :
    (Extern.BytealgIndexByte.indexByte #[.slice (some ⟨b, off, none⟩) bs.length cap, .int .u8 (c : Nat)]).run P w = .ok (.int .i64 (idxS c bs)) w := by
  have e := Lib.run_indexByteString (P := P) (bytesOf bs) (c : Nat) w
  have e2 : (Extern.BytealgIndexByte.indexByte #[.slice (some ⟨b, off, none⟩) bs.length cap, .int .u8 (c : Nat)]).run P w = (Extern.BytealgIndexByte.indexByte #[.string (bytesOf bs), .int .u8 (c : Nat)]).run P w := by
    change Sem.run P (do
      let b' ← Extern.Bytes.bytesOf (.slice (some ⟨b, off, none⟩) bs.length cap)
      let c' ← Extern.Bytes.asByte (.int .u8 (c : Nat))
      match (List.range b'.size).find? fun i => b'[i]! == c' with
      | some i => pure (goInt i)
      | none => pure (goInt (-1))) w = Sem.run P (do
      let b' ← Extern.Bytes.bytesOf (.string (bytesOf bs))
      let c' ← Extern.Bytes.asByte (.int .u8 (c : Nat))
      match (List.range b'.size).find? fun i => b'[i]! == c' with
      | some i => pure (goInt i)
      | none => pure (goInt (-1))) w
    have e3 : (Extern.Bytes.bytesOf (.string (bytesOf bs))).run P w = .ok (bytesOf bs) w := by simp only [Extern.Bytes.bytesOf, Sem.run_pure]
    simp only [Sem.run_bind, run_bytesOf_slice b off cap bs h, e3]
  rw [e2, e, ← idxS_ok c hc bs]
  rfl
end
set_option maxRecDepth 100000 in
theorem bytesIndex_any (b off cap : Nat) (bs : List Nat) (c : Nat) (hc : c < 256) (w : World) (h : BytesAt w b off bs) :
    Calls Tryz.prog 229 #[.slice (some ⟨b, off, none⟩) bs.length cap, .int .u8 (c : Nat)] w fun e w' => e = .returned (.int .i64 (idxS c bs)) ∧ w' = w := by
  have hx := run_indexSlice (P := Tryz.prog) (w := w) b off cap bs c hc h
  generalize bs.length = m at hx ⊢
  generalize idxS c bs = r at hx ⊢
  generalize ((c : Nat) : Int) = ci at hx ⊢
  go_enter Tryz.func229, Tryz.ntmps229
  go_wp2_with fail
  rw [run_callFunc_extern Tryz.func248 (by kernel_rfl) (by kernel_rfl) (by kernel_rfl) (e := Extern.BytealgIndexByte.indexByte) (by kernel_rfl), hx]
  simp only [Result.andThen]
  rw [Oper.upon_value]
  go_wp2_with fail
  go_ret
  exact ⟨rfl, rfl⟩
noncomputable def indexBOut (args : List SV) (σ : SH) : Option Outs := match args with
  | [.slice n off len _, .int .u8 (.ofNat c)] => match σ.get n with
    | some (.cells l _ _) => match byteCells ((l.drop off).take len) with
      | some bs => @Bool.rec (fun _ => Option Outs) none (some [(.int .i64 (idxS c bs), σ)]) (Nat.ble (off + len) l.length && Nat.blt c 256)
      | none => none
    | _ => none
  | _ => none
theorem indexBOut_ok (b : Base) {args : List SV} {σ : SH} {outs : Outs} {env : Env} {w : World} {vs : List Value} (h : indexBOut args σ = some outs) (hr : Rel Tryz.prog b env σ w) (ha : denL env args = some vs) :
    Calls Tryz.prog 229 vs.toArray w (Comes1 Tryz.prog b env outs) := by
  unfold indexBOut at h
  split at h
  · rename_i n off len cp c
    split at h
    · rename_i l e1 x1 hn
      split at h
      · rename_i bs hbs
        cases hc : (Nat.ble (off + len) l.length && Nat.blt c 256) with
        | false => rw [hc] at h; cases h
        | true =>
          rw [hc] at h
          replace h : some [(SV.int .i64 (idxS c bs), σ)] = some outs := h
          cases h
          rw [Bool.and_eq_true] at hc
          have k1 := Nat.le_of_ble_eq_true hc.1
          have k2 : c < 256 := Nat.le_of_ble_eq_true hc.2
          obtain ⟨v, us, h1, h2, rfl⟩ := denL_cons ha
          obtain ⟨v2, us2, h3, h4, rfl⟩ := denL_cons h2
          simp only [denL] at h4; cases h4
          simp only [den, Option.some.injEq] at h3; subst h3
          obtain ⟨b1, q1, he1, rfl⟩ := den_slice h1
          obtain ⟨l1, hb1⟩ := hr.bytesAt hn he1 k1 hbs
          subst l1
          refine (bytesIndex_any b1 off _ bs c k2 w hb1).mono ?_
          rintro e w' ⟨rfl, rfl⟩
          exact ⟨_, List.mem_singleton.2 rfl, env, _, rfl, Env.le_refl _, hr, by simp only [den]⟩
      · cases h
    · cases h
  · cases h

/-- All orders of a list. -/
def insertAll {α : Type} (x : α) : List α → List (List α)
  | [] => [[x]]
  | y :: r => (x :: y :: r) :: (insertAll x r).map (y :: ·)
def perms {α : Type} : List α → List (List α)
  | [] => [[]]
  | x :: r => (perms r).flatMap (insertAll x)
theorem mem_insertAll {α : Type} (x : α) : ∀ (a b : List α), a ++ x :: b ∈ insertAll x (a ++ b) := by
  intro a
  induction a with
  | nil => intro b; cases b <;> simp [insertAll]
  | cons y r ih => intro b; simp only [List.cons_append, insertAll]; exact List.mem_cons_of_mem _ (List.mem_map.2 ⟨_, ih b, rfl⟩)
theorem mem_perms {α : Type} : ∀ (l ys : List α), ys.Perm l → ys ∈ perms l := by
  intro l
  induction l with
  | nil => intro ys h; rw [List.Perm.eq_nil h]; simp [perms]
  | cons x r ih =>
    intro ys h
    have hx : x ∈ ys := h.mem_iff.2 (by simp)
    obtain ⟨a, b, rfl⟩ := List.append_of_mem hx
    have hp : (a ++ b).Perm r := (List.perm_middle.symm.trans h).cons_inv
    exact List.mem_flatMap.2 ⟨a ++ b, ih _ hp, mem_insertAll x a b⟩
end Go.Proofs.YtjnjcielihgagabGreatDoor

namespace Go.Proofs.YtjnjcielihgagabGreatDoor
open Go Go.RowKit Go.Shelf Go.Maps

theorem perm_lift {α β : Type} (f : α → β) : ∀ (l : List α) (b : List β), b.Perm (l.map f) → ∃ l' : List α, l'.Perm l ∧ l'.map f = b := by
  intro l
  induction l with
  | nil => intro b h; rw [List.map_nil] at h; rw [List.Perm.eq_nil h]; exact ⟨[], List.Perm.refl _, rfl⟩
  | cons x r ih =>
    intro b h
    have hx : f x ∈ b := h.mem_iff.2 (by simp)
    obtain ⟨a, c, rfl⟩ := List.append_of_mem hx
    have hp : (a ++ c).Perm (r.map f) := (List.perm_middle.symm.trans h).cons_inv
    obtain ⟨l', h1, h2⟩ := ih _ hp
    obtain ⟨l1, l2, rfl, rfl, rfl⟩ := List.map_eq_append_iff.1 h2
    exact ⟨l1 ++ x :: l2, List.perm_middle.trans (h1.cons x), by simp⟩

/-- The keys of a map, by their cells. -/
def idKeys : List (SV × SV) → Option (List (List SV))
  | [] => some []
  | (.agg ks, _) :: r => match idKeys r with
    | some l => if Nat.beq ks.length 20 && allInt ks then some (ks :: l) else none
    | none => none
  | _ :: _ => none
theorem idKeys_ok {env : Env} : ∀ {es : List (SV × SV)} {kl : List (List SV)} {ks : List Value}, idKeys es = some kl → denL env (es.map (·.1)) = some ks →
    ∃ ps : List (List SV × List Value), ps.map (·.1) = kl ∧ (ps.map fun p => Value.agg p.2.toArray) = ks ∧ ∀ p ∈ ps, denL env p.1 = some p.2 ∧ p.2.length = 20 ∧ ∀ v ∈ p.2, v.oneCell' = true := by
  intro es
  induction es with
  | nil =>
    intro kl ks h hd
    simp only [idKeys] at h; cases h
    simp only [List.map_nil, denL] at hd; cases hd
    exact ⟨[], rfl, rfl, fun p hp => by cases hp⟩
  | cons x r ih =>
    intro kl ks h hd
    obtain ⟨a, u⟩ := x
    cases a <;> simp only [idKeys] at h <;> try (cases h; done)
    rename_i cs
    cases hr : idKeys r with
    | none => rw [hr] at h; cases h
    | some l =>
      rw [hr] at h
      simp only at h
      split at h
      · rename_i hc; cases h
        rw [Bool.and_eq_true] at hc
        obtain ⟨v, us, h1, h2, rfl⟩ := denL_cons (show denL env (SV.agg cs :: r.map (·.1)) = some ks from hd)
        obtain ⟨vs, h3, rfl⟩ := den_agg h1
        obtain ⟨ps, p1, p2, p3⟩ := ih hr h2
        refine ⟨(cs, vs) :: ps, by rw [List.map_cons, p1], by rw [List.map_cons, p2], fun p hp => ?_⟩
        rcases List.mem_cons.1 hp with rfl | hp
        · exact ⟨h3, (denL_length h3).trans (Nat.eq_of_beq_eq_true hc.1), allInt_one hc.2 h3⟩
        · exact p3 p hp
      · cases h
theorem denL_flatten {env : Env} : ∀ (ps : List (List SV × List Value)), (∀ p ∈ ps, denL env p.1 = some p.2) → denL env (ps.map (·.1)).flatten = some (ps.flatMap (·.2)) := by
  intro ps
  induction ps with
  | nil => intro _; rfl
  | cons p r ih =>
    intro h
    rw [List.map_cons, List.flatten_cons, List.flatMap_cons]
    exact denL_append (h p (by simp)) (ih fun q hq => h q (by simp [hq]))

/-- What a new row of elements is. -/
noncomputable def rowOut (T : TypeId) (σ : SH) (n : Nat) (l : List SV) : SV × SH := @Nat.rec (fun _ => SV × SH) (.nils, σ) (fun _ _ => (.slice σ.next 0 n (.rest 0), σ.push (.cells l T false))) n
theorem rowOut_ok {b0 : Base} {env : Env} {σ : SH} {w w' : World} {T : TypeId} {sz n : Nat} {l : List SV} {v : Value} {xs : List Value} (hr : Rel Tryz.prog b0 env σ w) (hb : Below w.heap.size w w') (hrow : w'.ownsRow w.heap.size T sz v n xs) (hnil : v = .slice none 0 0 ↔ n = 0)
    (hd : denL env l = some xs) (hsz : Tryz.prog.cellsOf T = sz) : ∃ env', env.le env' ∧ Rel Tryz.prog b0 env' (rowOut T σ n l).2 w' ∧ den env' (rowOut T σ n l).1 = some v := by
  have hl := denL_length hd
  cases n with
  | zero =>
    rw [hnil.2 rfl]
    exact ⟨env, Env.le_refl _, hr.world hb, rfl⟩
  | succ n =>
    have hlen := hrow.1
    rcases hrow.2 with ⟨rfl, h0⟩ | ⟨g', cap', cur', rfl, hbase', hgb', hr1, hr2, hr3, hr4⟩
    · cases h0
    · have hnew := Env.new env σ.next g' cap'
      have hle := hr.le_push g' cap'
      have hO : ORel Tryz.prog (env.push σ.next g' cap') w' g' cap' (.cells l T false) :=
        ⟨cur', T, (0, 0), xs, hgb', thawed_zero _, denL_mono hle _ _ hd, by rw [← hl, hlen]; exact hr4, fun hx => absurd hx (by decide), fun _ => ⟨by rw [hsz]; exact hr3, hr2, rfl⟩⟩
      exact ⟨_, hle, hr.adopt hb hbase' hO, by simp only [rowOut, den, hnew, capOf]; rfl⟩

/-- What the map in a box holds. -/
theorem Rel.boxed {b0 : Base} {env : Env} {σ : SH} {w : World} (hr : Rel Tryz.prog b0 env σ w) {x m : Nat} {e1 : TypeId} {x1 : Bool} {es : List (SV × SV)} (hx : σ.get x = some (.cells [.map m] e1 x1)) (hm : σ.get m = some (.map es)) :
    ∃ bx cx bm ents ks, env.blocks x = some (bx, cx) ∧ bx < w.heap.size ∧ w.cell? ⟨bx, 0, none⟩ = some (.map (some bm)) ∧ w.heap[bm]? = some (.map ents ents.size) ∧ denL env (es.map (·.1)) = some ks ∧ ents.toList.map (·.key) = ks ∧ (∀ (i : Nat) (y : MapEntry), ents[i]? = some y → y.born = i) ∧ ents.size = es.length := by
  obtain ⟨bx, cx, hbx, _, hOx⟩ := hr.obj x _ hx
  obtain ⟨bm, cm, hbm, _, hOm⟩ := hr.obj m _ hm
  obtain ⟨cur, t, fr, us, hcur, hth, hus, htake, _⟩ := hOx
  obtain ⟨ents, clock, kvs, vvs, hents, hkv, hvv, hkeys, hvals, hclock, hborn⟩ := hOm
  obtain rfl : us = [.map (some bm)] := by
    obtain ⟨v, us', h1, h2, rfl⟩ := denL_cons hus
    obtain ⟨bm2, k2, h3, rfl⟩ := den_map h1
    rw [hbm] at h3; cases h3
    simp only [denL] at h2; cases h2; rfl
  subst hclock
  have hBm : bx < w.heap.size := (Array.getElem?_eq_some_iff.1 hcur).1
  refine ⟨bx, cx, bm, ents, kvs, hbx, hBm, ?_, hents, hkv, hkeys, hborn, ?_⟩
  · rw [cell_of_row w bx 0 cur t fr hcur]
    have := congrArg (·[0]?) htake
    simpa using this
  · have := denL_length hkv
    rw [← hkeys] at this
    simpa using this

noncomputable def collectIOut (args : List SV) (σ : SH) : Option Outs := match args with
  | [.fn (.func g) [] [.ptr x 0]] => (match σ.get x with
    | some (.cells [.map m] _ _) => (match σ.get m with
      | some (.map es) => (match idKeys es with
        | some kl => @Bool.rec (fun _ => Option Outs) none (some ((perms kl).map fun p => rowOut 28 σ p.length p.flatten)) (Nat.beq g 22 && Nat.ble es.length 4)
        | none => none)
      | _ => none)
    | _ => none)
  | _ => none
theorem collectIOut_ok (b0 : Base) {args : List SV} {σ : SH} {outs : Outs} {env : Env} {w : World} {vs : List Value} (h : collectIOut args σ = some outs) (hr : Rel Tryz.prog b0 env σ w) (ha : denL env args = some vs) :
    Calls Tryz.prog 20 vs.toArray w (Comes1 Tryz.prog b0 env outs) := by
  unfold collectIOut at h
  split at h
  · rename_i g x
    split at h
    · rename_i m e1 x1 hx
      split at h
      · rename_i es hm
        split at h
        · rename_i kl hkl
          cases hc : (Nat.beq g 22 && Nat.ble es.length 4) with
          | false => rw [hc] at h; cases h
          | true =>
            rw [hc] at h
            replace h : some ((perms kl).map fun p => rowOut 28 σ p.length p.flatten) = some outs := h
            cases h
            rw [Bool.and_eq_true] at hc
            have hg := Nat.eq_of_beq_eq_true hc.1
            have hle4 := Nat.le_of_ble_eq_true hc.2
            subst hg
            obtain ⟨bx, cx, bm, ents, ks, hbx, hBm, hcell, hents, hkv, hkeys, hborn, hsz⟩ := hr.boxed hx hm
            obtain ⟨ps, p1, p2, p3⟩ := idKeys_ok hkl hkv
            have hkey : ∀ e ∈ ents.toList, ∃ kc : Array Value, e.key = .agg kc ∧ kc.size = 20 ∧ kc.all (·.oneCell') = true := fun e he => by
              have : e.key ∈ ks := hkeys ▸ List.mem_map.2 ⟨e, he, rfl⟩
              rw [← p2] at this
              obtain ⟨p, hp, he2⟩ := List.mem_map.1 this
              obtain ⟨_, q2, q3⟩ := p3 p hp
              exact ⟨p.2.toArray, he2.symm, by simpa using q2, by simpa using q3⟩
            obtain rfl : vs = [.func (.func 22) #[] #[.pointer (some ⟨bx, 0, none⟩)]] := by
              obtain ⟨v, us', h1, h2, rfl⟩ := denL_cons ha
              simp only [denL] at h2; cases h2
              simp only [den, denL, hbx, Option.some.injEq] at h1
              subst h1; rfl
            refine (collect_known w bx bm ents hkey hborn (by omega) hBm hcell hents).mono ?_
            rintro en w' ⟨v, ss, rfl, hperm, hrow, hnil, hb⟩
            rw [hkeys, ← p2] at hperm
            obtain ⟨qs, hq1, hq2⟩ := perm_lift _ _ _ hperm
            have hss : ss.flatMap keyCells = qs.flatMap (·.2) := by
              have : (qs.map fun p => p.2) = ss.map keyCells := by
                have e1 : (qs.map fun p => Value.agg p.2.toArray).map (fun v => match v with | .agg c => c.toList | _ => []) = (ss.map fun k => Value.agg k.kc).map (fun v => match v with | .agg c => c.toList | _ => []) := by rw [hq2]
                have e2 : (keyCells : IdK → List Value) = fun k => k.kc.toList := rfl
                rw [e2]
                simpa [List.map_map, Function.comp_def] using e1
              rw [List.flatMap_def, List.flatMap_def, this]
            have hlen : ss.length = (qs.map (·.1)).length := by
              have := congrArg List.length hq2
              simpa using this.symm
            have hd := denL_flatten qs (fun p hp => (p3 p (hq1.mem_iff.1 hp)).1)
            rw [hss, hlen] at hrow
            have hnil' : v = .slice none 0 0 ↔ (qs.map (·.1)).length = 0 := by
              rw [hnil, ← hlen]; exact List.length_eq_zero_iff.symm
            obtain ⟨env', h1, h2, h3⟩ := rowOut_ok hr hb hrow hnil' hd (by kernel_rfl)
            refine ⟨_, List.mem_map.2 ⟨qs.map (·.1), ?_, rfl⟩, env', v, rfl, h1, h2, h3⟩
            rw [← p1]
            exact mem_perms _ _ (hq1.map _)
        · cases h
      · cases h
    · cases h
  · cases h

/-- The string keys of a map. -/
def strKeysS : List (SV × SV) → Option (List (List Nat))
  | [] => some []
  | (.str l, _) :: r => match strKeysS r with
    | some m => some (l :: m)
    | none => none
  | _ :: _ => none
theorem strKeysS_ok {env : Env} : ∀ {es : List (SV × SV)} {kl : List (List Nat)} {ks : List Value}, strKeysS es = some kl → denL env (es.map (·.1)) = some ks → ks = kl.map fun l => Value.string (bytesOf l) := by
  intro es
  induction es with
  | nil =>
    intro kl ks h hd
    simp only [strKeysS] at h; cases h
    simp only [List.map_nil, denL] at hd; cases hd; rfl
  | cons x r ih =>
    intro kl ks h hd
    obtain ⟨a, u⟩ := x
    cases a <;> simp only [strKeysS] at h <;> try (cases h; done)
    cases hr : strKeysS r with
    | none => rw [hr] at h; cases h
    | some m =>
      rw [hr] at h; cases h
      obtain ⟨v, us, h1, h2, rfl⟩ := denL_cons (show denL env (SV.str _ :: r.map (·.1)) = some ks from hd)
      simp only [den, Option.some.injEq] at h1; subst h1
      rw [List.map_cons, ih hr h2]
theorem denL_strs {env : Env} : ∀ (l : List (List Nat)), denL env (l.map SV.str) = some (l.map fun x => Value.string (bytesOf x)) := by
  intro l
  induction l with
  | nil => rfl
  | cons x r ih => rw [List.map_cons, List.map_cons]; exact denL_mk (by simp only [den]) ih
noncomputable def collectFOut (args : List SV) (σ : SH) : Option Outs := match args with
  | [.fn (.func g) [] [.ptr x 0]] => (match σ.get x with
    | some (.cells [.map m] _ _) => (match σ.get m with
      | some (.map es) => (match strKeysS es with
        | some kl => @Bool.rec (fun _ => Option Outs) none (some ((perms kl).map fun p => rowOut 9 σ p.length (p.map SV.str))) (Nat.beq g 155 && Nat.ble es.length 4)
        | none => none)
      | _ => none)
    | _ => none)
  | _ => none
theorem collectFOut_ok (b0 : Base) {args : List SV} {σ : SH} {outs : Outs} {env : Env} {w : World} {vs : List Value} (h : collectFOut args σ = some outs) (hr : Rel Tryz.prog b0 env σ w) (ha : denL env args = some vs) :
    Calls Tryz.prog 35 vs.toArray w (Comes1 Tryz.prog b0 env outs) := by
  unfold collectFOut at h
  split at h
  · rename_i g x
    split at h
    · rename_i m e1 x1 hx
      split at h
      · rename_i es hm
        split at h
        · rename_i kl hkl
          cases hc : (Nat.beq g 155 && Nat.ble es.length 4) with
          | false => rw [hc] at h; cases h
          | true =>
            rw [hc] at h
            replace h : some ((perms kl).map fun p => rowOut 9 σ p.length (p.map SV.str)) = some outs := h
            cases h
            rw [Bool.and_eq_true] at hc
            have hg := Nat.eq_of_beq_eq_true hc.1
            have hle4 := Nat.le_of_ble_eq_true hc.2
            subst hg
            obtain ⟨bx, cx, bm, ents, ks, hbx, hBm, hcell, hents, hkv, hkeys, hborn, hsz⟩ := hr.boxed hx hm
            have hks := strKeysS_ok hkl hkv
            have hkey : ∀ e ∈ ents.toList, ∃ s : ByteArray, e.key = .string s := fun e he => by
              have : e.key ∈ ks := hkeys ▸ List.mem_map.2 ⟨e, he, rfl⟩
              rw [hks] at this
              obtain ⟨l, _, he2⟩ := List.mem_map.1 this
              exact ⟨_, he2.symm⟩
            obtain rfl : vs = [.func (.func 155) #[] #[.pointer (some ⟨bx, 0, none⟩)]] := by
              obtain ⟨v, us', h1, h2, rfl⟩ := denL_cons ha
              simp only [denL] at h2; cases h2
              simp only [den, denL, hbx, Option.some.injEq] at h1
              subst h1; rfl
            refine (collectF_known w bx bm ents hkey hborn (by omega) hBm hcell hents).mono ?_
            rintro en w' ⟨v, ss, rfl, hperm, hrow, hnil, hb⟩
            rw [hkeys, hks] at hperm
            obtain ⟨qs, hq1, hq2⟩ := perm_lift _ _ _ hperm
            have hlen : ss.length = qs.length := by
              have := congrArg List.length hq2
              simpa using this.symm
            have hd := denL_strs (env := env) qs
            rw [hq2] at hd
            rw [hlen] at hrow
            have hnil' : v = .slice none 0 0 ↔ qs.length = 0 := by
              rw [hnil, ← hlen]; exact List.length_eq_zero_iff.symm
            obtain ⟨env', h1, h2, h3⟩ := rowOut_ok hr hb hrow hnil' hd (by kernel_rfl)
            exact ⟨_, List.mem_map.2 ⟨qs, mem_perms _ _ hq1, rfl⟩, env', v, rfl, h1, h2, h3⟩
        · cases h
      · cases h
    · cases h
  · cases h
end Go.Proofs.YtjnjcielihgagabGreatDoor

namespace Go.Proofs.YtjnjcielihgagabGreatDoor
open Go Go.RowKit Go.Shelf Go.Maps

attribute [local go_sem] Oper.semAt_some


set_option maxRecDepth 100000 in
set_option maxHeartbeats 2000000 in
/-- maps.Keys of a map whose entries are known: its iterator gives each once. -/
theorem keysR_gives (F : Fence) (n : Nat) (h10 : F.fn 37) (hro : F.round = none) (hn : 1 ≤ n) (Bm b : Nat) (es : Array MapEntry) (hkey : ∀ e ∈ es.toList, ∃ s : ByteArray, e.key = .string s) (hborn : ∀ (i : Nat) (x : MapEntry), es[i]? = some x → x.born = i) (w : World) (hBm : Bm < w.heap.size)
    (hm : w.cell? ⟨Bm, 0, none⟩ = some (.map (some b))) (hown : w.heap[b]? = some (.map es es.size)) :
    SeqGives (α := ByteArray) F n Tryz.prog 37 #[.pointer (some ⟨Bm, 0, none⟩)] (fun s => .string s) (fun xs => (xs.map fun s => Value.string s).Perm (es.toList.map (·.key))) es.size w := by
  intro l J W hW hJ hY h0
  have hm' : W.cell? ⟨Bm, 0, none⟩ = some (.map (some b)) := (hW.cell (p := ⟨Bm, 0, none⟩) hBm).trans hm
  have hown' : W.heap[b]? = some (.map es es.size) := (hW.block b (Array.getElem?_eq_some_iff.1 hown).1).trans hown
  have hblt : b < W.heap.size := (Array.getElem?_eq_some_iff.1 hown').1
  have hnd := born_nodup hborn
  refine callsIn_of_wp Tryz.func37 rfl h10 ?_ hro
  simp only [Tryz.ntmps37, List.size_toArray, List.length_cons, List.length_nil, Nat.reduceAdd, Nat.reduceSub, Array.replicate_succ, Array.replicate_zero, List.push_toArray, List.append_toArray, List.nil_append, List.cons_append]
  have hrg := run_range_map (P := Tryz.prog) W 52 9 _ b es es.size Tryz.underlying52 hown'
  gi_wp2_with (first
    | (gi_at_range; refine wpListIn_op_val rfl (fun c h => by cases h) (fun c h => by cases h) (v := .pointer (some ⟨W.heap.size, 0, none⟩)) (w' := W.alloc (.mapIter (some b) es.size #[] es.size)) (by simp [execOp, go_sem, hrg]) ?_)
    | gi_in)
  gi_loopw [3] (fun _ wr => ∃ (seen : Array Nat) (ys : List MapEntry) (xs : List ByteArray), wr.heap[W.heap.size]? = some (.mapIter (some b) es.size seen es.size) ∧ wr.heap[b]? = some (.map es es.size) ∧ (ys ++ (leftOf es seen).toList).Perm es.toList ∧ (xs.map fun s => Value.string s) = ys.map (·.key) ∧ J xs wr)
    (fun _ wr => (leftOf es (wr.iterSeen W.heap.size)).size)
  case atStart =>
    refine ⟨#[], [], [], World.alloc_heap_new W _, ?_, ?_, rfl, ?_⟩
    · exact (Below.heap_alloc W _ b hblt).trans hown'
    · rw [left_none]; exact List.Perm.refl _
    · exact hJ [] W _ none h0 (World.grownBy_alloc W _ none) (fun r e => by cases e)
  case round =>
    obtain ⟨seen, ys, xs, hit, hb, hperm, hxy, hJs⟩ := hrel
    have hseen : wr.iterSeen W.heap.size = seen := by simp [World.iterSeen, hit]
    rcases next_known (P := Tryz.prog) _ hit hb hborn (by omega) with ⟨hl0, hnext⟩ | ⟨e, he, w2, hnext, hg2, hs2, hit2, hb2⟩
    · gi_wp2_with (first
        | (gi_at_next; refine wpListIn_next_run rfl _ rfl rfl hnext ?_)
        | gi_in)
      go_end0
      have : (leftOf es seen).toList = [] := by
        have : (leftOf es seen) = #[] := Array.eq_empty_of_size_eq_zero hl0
        rw [this]
      rw [this, List.append_nil] at hperm
      exact ⟨⟨_, rfl⟩, xs, by rw [hxy]; exact hperm.map _, hJs⟩
    · have heL := (mem_left he).1
      obtain ⟨kc, hek⟩ := hkey e heL
      have hlen : xs.length < es.size := by
        have hxl := congrArg List.length hxy
        rw [List.length_map, List.length_map] at hxl
        have := hperm.length_eq
        rw [List.length_append] at this
        have : 0 < (leftOf es seen).toList.length := List.length_pos_of_mem he
        have e2 : es.toList.length = es.size := Array.length_toList
        omega
      have hlt : W.heap.size < wr.heap.size := (Array.getElem?_eq_some_iff.1 hit).1
      have hJ2 : J xs w2 := hJ xs wr w2 (some W.heap.size) hJs hg2 (fun r q => by cases q; exact ⟨Nat.le_refl _, _, hit, rfl⟩)
      obtain ⟨fn, tmps, assign, body, hy, hR⟩ := hY xs kc _ hJ2 hlen
      clear hs2
      gi_wp2_with (first
        | (gi_at_next; refine wpListIn_next_run rfl _ rfl rfl hnext ?_)
        | (refine wpListIn_entry_run rfl _ rfl rfl (run_entry_at _ _ _ _ _ _ _ _ hit2 hb2 heL hnd) ?_; rw [hek])
        | gi_in)
      refine hR.mono ?_
      rintro e3 W3 ⟨rfl, hJ4, hk4⟩
      have hit4 := hk4.same _ _ hit2 rfl
      have hb4 := hk4.same _ _ hb2 rfl
      gi_wp2
      go_roundw
      case rel => exact ⟨_, _, _, hit4, hb4, left_step hnd he hperm, by rw [List.map_append, List.map_append, hxy]; simp [hek], hJ4⟩
      case measure => simp only [World.iterSeen, hit, hit4]; exact left_shrinks es seen e he



theorem collectR_known (w : World) (Bm b : Nat) (es : Array MapEntry) (hkey : ∀ e ∈ es.toList, ∃ s : ByteArray, e.key = .string s) (hborn : ∀ (i : Nat) (x : MapEntry), es[i]? = some x → x.born = i) (hsz : es.size ≤ 1099511627776) (hBm : Bm < w.heap.size)
    (hm : w.cell? ⟨Bm, 0, none⟩ = some (.map (some b))) (hown : w.heap[b]? = some (.map es es.size)) :
    Calls Tryz.prog 35 #[.func (.func 37) #[] #[.pointer (some ⟨Bm, 0, none⟩)]] w fun e w' => ∃ v ss, e = .returned v ∧ ((ss.map fun s => Value.string s).Perm (es.toList.map (·.key))) ∧ w'.ownsRow w.heap.size 9 1 v ss.length (ss.map Value.string) ∧ (v = .slice none 0 0 ↔ ss = []) ∧ Below w.heap.size w w' :=
  callsIn_wide.1 (collectS_in Fence.wide 3 trivial trivial rfl (Nat.le_refl _) _ _ trivial (enters_of Tryz.func37 (by kernel_rfl) rfl) (fun ss => (ss.map fun s => Value.string s).Perm (es.toList.map (·.key))) es.size (by unfold maxLen; omega) (by omega) w
    (keysR_gives Fence.wide 1 trivial rfl (Nat.le_refl _) Bm b es hkey hborn w hBm hm hown))

noncomputable def collectROut (args : List SV) (σ : SH) : Option Outs := match args with
  | [.fn (.func g) [] [.ptr x 0]] => (match σ.get x with
    | some (.cells [.map m] _ _) => (match σ.get m with
      | some (.map es) => (match strKeysS es with
        | some kl => @Bool.rec (fun _ => Option Outs) none (some ((perms kl).map fun p => rowOut 9 σ p.length (p.map SV.str))) (Nat.beq g 37 && Nat.ble es.length 4)
        | none => none)
      | _ => none)
    | _ => none)
  | _ => none
theorem collectROut_ok (b0 : Base) {args : List SV} {σ : SH} {outs : Outs} {env : Env} {w : World} {vs : List Value} (h : collectROut args σ = some outs) (hr : Rel Tryz.prog b0 env σ w) (ha : denL env args = some vs) :
    Calls Tryz.prog 35 vs.toArray w (Comes1 Tryz.prog b0 env outs) := by
  unfold collectROut at h
  split at h
  · rename_i g x
    split at h
    · rename_i m e1 x1 hx
      split at h
      · rename_i es hm
        split at h
        · rename_i kl hkl
          cases hc : (Nat.beq g 37 && Nat.ble es.length 4) with
          | false => rw [hc] at h; cases h
          | true =>
            rw [hc] at h
            replace h : some ((perms kl).map fun p => rowOut 9 σ p.length (p.map SV.str)) = some outs := h
            cases h
            rw [Bool.and_eq_true] at hc
            have hg := Nat.eq_of_beq_eq_true hc.1
            have hle4 := Nat.le_of_ble_eq_true hc.2
            subst hg
            obtain ⟨bx, cx, bm, ents, ks, hbx, hBm, hcell, hents, hkv, hkeys, hborn, hsz⟩ := hr.boxed hx hm
            have hks := strKeysS_ok hkl hkv
            have hkey : ∀ e ∈ ents.toList, ∃ s : ByteArray, e.key = .string s := fun e he => by
              have : e.key ∈ ks := hkeys ▸ List.mem_map.2 ⟨e, he, rfl⟩
              rw [hks] at this
              obtain ⟨l, _, he2⟩ := List.mem_map.1 this
              exact ⟨_, he2.symm⟩
            obtain rfl : vs = [.func (.func 37) #[] #[.pointer (some ⟨bx, 0, none⟩)]] := by
              obtain ⟨v, us', h1, h2, rfl⟩ := denL_cons ha
              simp only [denL] at h2; cases h2
              simp only [den, denL, hbx, Option.some.injEq] at h1
              subst h1; rfl
            refine (collectR_known w bx bm ents hkey hborn (by omega) hBm hcell hents).mono ?_
            rintro en w' ⟨v, ss, rfl, hperm, hrow, hnil, hb⟩
            rw [hkeys, hks] at hperm
            obtain ⟨qs, hq1, hq2⟩ := perm_lift _ _ _ hperm
            have hlen : ss.length = qs.length := by
              have := congrArg List.length hq2
              simpa using this.symm
            have hd := denL_strs (env := env) qs
            rw [hq2] at hd
            rw [hlen] at hrow
            have hnil' : v = .slice none 0 0 ↔ qs.length = 0 := by
              rw [hnil, ← hlen]; exact List.length_eq_zero_iff.symm
            obtain ⟨env', h1, h2, h3⟩ := rowOut_ok hr hb hrow hnil' hd (by kernel_rfl)
            exact ⟨_, List.mem_map.2 ⟨qs, mem_perms _ _ hq1, rfl⟩, env', v, rfl, h1, h2, h3⟩
        · cases h
      · cases h
    · cases h
  · cases h
end Go.Proofs.YtjnjcielihgagabGreatDoor

namespace Go.Proofs.YtjnjcielihgagabGreatDoor
open Go Go.RowKit Go.Shelf Go.Sort

/-- Twenty bytes. -/
structure IdB where
  l : List Nat
  len : l.length = 20
  lt : ∀ n ∈ l, n < 256
instance : Inhabited IdB := ⟨⟨List.replicate 20 0, by decide, by decide⟩⟩
def encB (x : IdB) : List Value := x.l.map fun n => .int .u8 (n : Nat)
theorem encB_len (x : IdB) : (encB x).length = 20 := by unfold encB; rw [List.length_map, x.len]

set_option maxHeartbeats 1000000 in
set_option maxRecDepth 100000 in
theorem less_any (x y : IdB) (W : World) : Calls Tryz.prog 12 #[.agg (encB x).toArray, .agg (encB y).toArray] W fun e w' => e = .returned (.int .i64 (cmpS x.l y.l)) ∧ ∃ q os', w' = grow (W.drewN q) os' := by
  have at_ : ∀ (k : Nat) (z : IdB) (V : World) (T : TypeId), V.heap[k]? = some (.cells (encB z).toArray T (0, 0)) → BytesAt V k 0 z.l := fun k z V T h j v hv => by
    have hlt : v < 256 := z.lt v (List.mem_of_getElem? hv)
    have e1 : (encB z).toArray[0 + j]? = some (.int .u8 (v : Nat)) := by
      rw [Nat.zero_add, List.getElem?_toArray]; unfold encB; rw [List.getElem?_map, hv]; rfl
    simp only [World.cell?, h, Option.bind_some]
    rw [e1]
    have : (UInt8.ofNat v).toNat = v := by simp; omega
    rw [this]
    rfl
  have hcmp : ∀ V : World, BytesAt V W.heap.size 0 x.l → BytesAt V (W.heap.size + 1) 0 y.l → Calls Tryz.prog 23 #[.slice (some ⟨W.heap.size, 0, none⟩) 20 20, .slice (some ⟨W.heap.size + 1, 0, none⟩) 20 20] V fun e w' => e = .returned (.int .i64 (cmpS x.l y.l)) ∧ w' = V := fun V h1 h2 => by
    have := bytesCompare_any W.heap.size 0 20 (W.heap.size + 1) 0 20 x.l y.l V h1 h2
    rw [x.len, y.len] at this
    exact this
  generalize cmpS x.l y.l = r at hcmp ⊢
  obtain ⟨A, hA⟩ : ∃ A, (encB x).toArray = A := ⟨_, rfl⟩
  obtain ⟨B, hB⟩ : ∃ B, (encB y).toArray = B := ⟨_, rfl⟩
  have hx : ∀ V : World, V.heap[W.heap.size]? = some (.cells A 28 (0, 0)) → BytesAt V W.heap.size 0 x.l := fun V h => at_ _ x V _ (by rw [h, hA])
  have hy : ∀ V : World, V.heap[W.heap.size + 1]? = some (.cells B 28 (0, 0)) → BytesAt V (W.heap.size + 1) 0 y.l := fun V h => at_ _ y V _ (by rw [h, hB])
  rw [hA, hB]
  clear at_ hA hB
  go_enter Tryz.func12, Tryz.ntmps12
  go_wp2_with fail
  obtain ⟨W1, hW1⟩ : ∃ W1, (W.alloc (Obj.cells A 28)).alloc (Obj.cells B 28) = W1 := ⟨_, rfl⟩
  have g1 : W1.heap[W.heap.size]? = some (.cells A 28 (0, 0)) := by
    rw [← hW1]; exact (Below.heap_alloc _ _ _ (by simp)).trans (heap_alloc_new W _)
  have g2 : W1.heap[W.heap.size + 1]? = some (.cells B 28 (0, 0)) := by
    rw [← hW1]; have := heap_alloc_new (W.alloc (Obj.cells A 28)) (Obj.cells B 28); rwa [World.size_alloc] at this
  have hg : ∃ q os', W1 = grow (W.drewN q) os' := ⟨0, _, by rw [← hW1, alloc_eq_grow, alloc_eq_grow, grow_grow]; rfl⟩
  rw [hW1]
  clear hW1
  go_region_with (go_at_call 23; refine (hcmp W1.drew (hx W1.drew g1) (hy W1.drew g2)).mono ?_; rintro e w' ⟨rfl, rfl⟩)
  all_goals (go_wp2_with fail; go_ret; obtain ⟨q, os', rfl⟩ := hg; exact ⟨rfl, q + 1, os', rfl⟩)
theorem less_lays (blk off size : Nat) (w : World) : CmpLays Tryz.prog 12 #[] encB 20 (fun x y => cmpS x.l y.l) blk off size w :=
  fun _ _ _ _ x y => less_any x y _
end Go.Proofs.YtjnjcielihgagabGreatDoor

namespace Go.Proofs.YtjnjcielihgagabGreatDoor
open Go Go.RowKit Go.Shelf Go.Sort

theorem ltB_irrefl : ∀ (a : List Nat), ltBytes a a = false := by
  intro a
  induction a with
  | nil => rfl
  | cons x r ih => simp [ltBytes, ih]
theorem ltB_trans : ∀ (a b c : List Nat), ltBytes a b = true → ltBytes b c = true → ltBytes a c = true := by
  intro a
  induction a with
  | nil =>
    intro b c h1 h2
    cases c with
    | nil => cases b <;> simp [ltBytes] at h2
    | cons z u => rfl
  | cons x r ih =>
    intro b c h1 h2
    cases b with
    | nil => simp [ltBytes] at h1
    | cons y s =>
      cases c with
      | nil => simp [ltBytes] at h2
      | cons z u =>
        simp only [ltBytes, Bool.or_eq_true, decide_eq_true_eq, Bool.and_eq_true, beq_iff_eq] at h1 h2 ⊢
        rcases h1 with h1 | ⟨h1, h1'⟩ <;> rcases h2 with h2 | ⟨h2, h2'⟩
        · left; omega
        · left; omega
        · left; omega
        · right; exact ⟨by omega, ih s u h1' h2'⟩
theorem ltB_total : ∀ (a b : List Nat), ltBytes a b = true ∨ eqBytes a b = true ∨ ltBytes b a = true := by
  intro a
  induction a with
  | nil => intro b; cases b <;> simp [ltBytes, eqBytes]
  | cons x r ih =>
    intro b
    cases b with
    | nil => simp [ltBytes]
    | cons y s =>
      simp only [ltBytes, eqBytes, Bool.or_eq_true, decide_eq_true_eq, Bool.and_eq_true, beq_iff_eq]
      rcases Nat.lt_trichotomy (x % 256) (y % 256) with h | h | h
      · exact .inl (.inl h)
      · rcases ih s with h' | h' | h'
        · exact .inl (.inr ⟨h, h'⟩)
        · exact .inr (.inl ⟨h, h'⟩)
        · exact .inr (.inr (.inr ⟨h.symm, h'⟩))
      · exact .inr (.inr (.inl h))
theorem eqB_eq : ∀ (a b : List Nat), (∀ n ∈ a, n < 256) → (∀ n ∈ b, n < 256) → eqBytes a b = true → a = b := by
  intro a
  induction a with
  | nil => intro b _ _ h; cases b with
    | nil => rfl
    | cons y s => simp [eqBytes] at h
  | cons x r ih =>
    intro b ha hb h
    cases b with
    | nil => simp [eqBytes] at h
    | cons y s =>
      simp only [eqBytes, Bool.and_eq_true, beq_iff_eq] at h
      have h1 := ha x (by simp)
      have h2 := hb y (by simp)
      rw [Nat.mod_eq_of_lt h1, Nat.mod_eq_of_lt h2] at h
      rw [h.1, ih s (fun n hn => ha n (by simp [hn])) (fun n hn => hb n (by simp [hn])) h.2]
noncomputable def cfB (x y : IdB) : Int := cmpS x.l y.l
theorem ltOf_cfB (x y : IdB) : ltOf cfB x y = ltBytes x.l y.l := by
  unfold ltOf cfB cmpS
  cases ltBytes x.l y.l with
  | true => rfl
  | false => cases eqBytes x.l y.l <;> rfl
theorem swoB : SWO (ltOf cfB) where
  irrefl x := by rw [ltOf_cfB]; exact ltB_irrefl _
  trans x y z h1 h2 := by rw [ltOf_cfB] at *; exact ltB_trans _ _ _ h1 h2
  ntrans x y z h1 h2 := by
    rw [ltOf_cfB] at *
    cases h : ltBytes x.l z.l with
    | false => rfl
    | true =>
      rcases ltB_total x.l y.l with g | g | g
      · rw [h1] at g; cases g
      · have := eqB_eq _ _ x.lt y.lt g
        rw [this, h2] at h; cases h
      · have := ltB_trans _ _ _ g h
        rw [h2] at this; cases this
/-- Two rows of the same ids: one rises strictly, the other one does not fall: they are one. -/
theorem sorted_unique : ∀ (a b : List IdB), a.Perm b → a.Pairwise (fun x y => ltBytes y.l x.l = false) → b.Pairwise (fun x y => ltBytes x.l y.l = true) → a = b := by
  intro a
  induction a with
  | nil => intro b h _ _; rw [List.Perm.nil_eq h]
  | cons x r ih =>
    intro b h h1 h2
    cases b with
    | nil => exact absurd h.length_eq (by simp)
    | cons y s =>
      have hx : x ∈ y :: s := h.subset List.mem_cons_self
      have hy : y ∈ x :: r := h.symm.subset List.mem_cons_self
      have e : x = y := by
        rcases List.mem_cons.1 hx with e | hxs
        · exact e
        · rcases List.mem_cons.1 hy with e | hyr
          · exact e.symm
          · have g1 := (List.pairwise_cons.1 h1).1 y hyr
            have g2 := (List.pairwise_cons.1 h2).1 x hxs
            rw [g1] at g2; cases g2
      subst e
      rw [ih s h.cons_inv (List.pairwise_cons.1 h1).2 (List.pairwise_cons.1 h2).2]
theorem sortedIn_pairwise {d : Array IdB} (h : SortedIn (ltOf cfB) 0 d.size d) : d.toList.Pairwise (fun x y => ltBytes y.l x.l = false) := by
  rw [List.pairwise_iff_getElem]
  intro i j hi hj hij
  have := h i j (Nat.zero_le _) hij (by simpa using hj)
  rw [ltOf_cfB] at this
  rw [getElem!_pos d i (by simpa using hi), getElem!_pos d j (by simpa using hj)] at this
  simpa using this
/-- The cells of some ids. -/
theorem flatK_toList (d : Array IdB) : (flatK encB 20 d).toList = d.toList.flatMap encB := by
  apply List.ext_getElem
  · simp only [Array.length_toList, size_flatK, List.length_flatMap]
    have : (d.toList.map fun x => (encB x).length) = List.replicate d.size 20 := by
      rw [List.eq_replicate_iff]
      exact ⟨by simp, fun b hb => by obtain ⟨x, _, rfl⟩ := List.mem_map.1 hb; exact encB_len x⟩
    rw [this]; simp
  · intro t h1 h2
    have ht : t < d.size * 20 := by simpa using h1
    have g := get_flatK encB 20 d t ht
    rw [getElem!_pos _ t (by simpa using ht)] at g
    rw [Array.getElem_toList, g]
    have key : ∀ (l : List IdB) (t : Nat) (h : t < (l.flatMap encB).length), (l.flatMap encB)[t] = (encB (l[t / 20]!))[t % 20]! := by
      intro l
      induction l with
      | nil => intro t h; simp at h
      | cons x r ih =>
        intro t h
        simp only [List.flatMap_cons]
        rcases Nat.lt_or_ge t 20 with ht | ht
        · rw [List.getElem_append_left (by rw [encB_len]; exact ht), Nat.div_eq_of_lt ht, Nat.mod_eq_of_lt ht]
          simp only [List.getElem!_cons_zero]
          rw [getElem!_pos _ t (by rw [encB_len]; exact ht)]
        · rw [List.getElem_append_right (by rw [encB_len]; exact ht)]
          have e1 : t / 20 = (t - 20) / 20 + 1 := by omega
          have e2 : t % 20 = (t - 20) % 20 := by omega
          rw [e1, e2, List.getElem!_cons_succ]
          have := ih (t - 20) (by simp only [List.flatMap_cons, List.length_append, encB_len] at h; omega)
          rw [← this]
          congr 1
          rw [encB_len]
    rw [key d.toList t h2]
    have hd : t / 20 < d.size := by omega
    rw [getElem!_pos d (t / 20) hd, getElem!_pos d.toList (t / 20) (by simpa using hd)]
    rfl
end Go.Proofs.YtjnjcielihgagabGreatDoor

namespace Go.Proofs.YtjnjcielihgagabGreatDoor
open Go Go.RowKit Go.Shelf Go.Sort

theorem sortI_agg : ∀ w, (isAgg (Tryz.laysSortI_ren.t 24)).run Tryz.prog w = .ok true w := Tryz.isAgg28
theorem sortI_size : ∀ w, (Go.sizeOf (Tryz.laysSortI_ren.t 24)).run Tryz.prog w = .ok 20 w := Tryz.sizeOf28

set_option maxHeartbeats 1000000 in
set_option maxRecDepth 100000 in
/-- slices.SortedFunc: what is collected is sorted. -/
theorem sortedI_calls (w : World) (a0 : Value) (n : Nat) (P1 P2 : Nat → Nat → World → Prop)
    (h1 : Calls Tryz.prog 20 #[a0] w fun e w1 => ∃ g cap, e = .returned (.slice (some ⟨g, 0, none⟩) n cap) ∧ P1 g cap w1)
    (h2 : ∀ g cap w1, P1 g cap w1 → Calls Tryz.prog 21 #[.slice (some ⟨g, 0, none⟩) n cap, .func (.func 12) #[] #[]] w1 fun e w2 => e = .returned (.tuple #[]) ∧ P2 g cap w2) :
    Calls Tryz.prog 10 #[a0, .func (.func 12) #[] #[]] w fun e w2 => ∃ g cap, e = .returned (.slice (some ⟨g, 0, none⟩) n cap) ∧ P2 g cap w2 := by
  go_enter Tryz.func10, Tryz.ntmps10
  go_wp2_with (go_at_call 20; refine h1.mono ?_; rintro e w1 ⟨g, cap, rfl, hp⟩)
  go_wp2_with (go_at_call 21; refine (h2 g cap w1 hp).mono ?_; rintro e w2 ⟨rfl, hp2⟩)
  go_ret
  exact ⟨g, cap, rfl, hp2⟩

theorem sortWorld_at (w1 : World) (g n : Nat) (d' : Array IdB) (os : Array Obj) (cur : Array Value) (T : TypeId) (fr : Nat × Nat) (hg : w1.heap[g]? = some (.cells cur T fr)) (hsz : d'.size * 20 ≤ cur.size) :
    ∃ cur', (sortWorldK encB 20 w1 g 0 n d' os).heap[g]? = some (.cells cur' T fr) ∧ cur'.size = cur.size ∧ cur'.toList.take (d'.size * 20) = d'.toList.flatMap encB ∧
      (∀ k, k ≠ g → k < w1.heap.size → (sortWorldK encB 20 w1 g 0 n d' os).heap[k]? = w1.heap[k]?) ∧ w1.heap.size ≤ (sortWorldK encB 20 w1 g 0 n d' os).heap.size ∧
      (sortWorldK encB 20 w1 g 0 n d' os).os = w1.os ∧ (sortWorldK encB 20 w1 g 0 n d' os).tape = w1.tape ∧ (sortWorldK encB 20 w1 g 0 n d' os).output = w1.output := by
  have hlt : g < w1.heap.size := (Array.getElem?_eq_some_iff.1 hg).1
  have hh : (sortWorldK encB 20 w1 g 0 n d' os).heap = w1.heap.modify g (Go.Sort.onCells (putCells id 0 (flatK encB 20 d'))) ++ os := rfl
  refine ⟨putCells id 0 (flatK encB 20 d') cur, ?_, by simp [putCells], ?_, fun k hk hk2 => ?_, ?_, rfl, rfl, rfl⟩
  · rw [hh, Array.getElem?_append_left (by simpa using hlt), Array.getElem?_modify, if_pos rfl, hg]; rfl
  · rw [← flatK_toList]
    apply List.ext_getElem?
    intro j
    rw [List.getElem?_take]
    by_cases hj : j < d'.size * 20
    · rw [if_pos hj, Array.getElem?_toList, Array.getElem?_toList]
      unfold putCells
      rw [Array.getElem?_mapIdx]
      have hjc : j < cur.size := by omega
      rw [Array.getElem?_eq_getElem hjc]
      simp only [Option.map_some, Nat.zero_le, true_and, Nat.zero_add, size_flatK, hj, if_true, Nat.sub_zero, id_eq]
      have hjf : j < (flatK encB 20 d').size := by rw [size_flatK]; exact hj
      rw [getElem!_pos _ j hjf, Array.getElem?_eq_getElem hjf]
    · rw [if_neg hj, List.getElem?_eq_none (by simp only [Array.length_toList, size_flatK]; omega)]
  · rw [hh, Array.getElem?_append_left (by simpa using hk2), Array.getElem?_modify, if_neg (Ne.symm hk)]
  · rw [hh, Array.size_append, Array.size_modify]; omega

theorem encB_one (x : IdB) : ∀ v ∈ encB x, v.oneCell' = true := fun v hv => by
  unfold encB at hv
  obtain ⟨n, _, rfl⟩ := List.mem_map.1 hv
  rfl
theorem holds_row (w1 : World) (g : Nat) (d : Array IdB) (cur : Array Value) (T : TypeId) (hg : w1.heap[g]? = some (.cells cur T (0, 0))) (hc : cur.toList.take (d.size * 20) = d.toList.flatMap encB) : HoldsK encB 20 w1 g 0 d := by
  intro j hj
  rw [Nat.zero_add]
  have hjf := hj
  rw [size_flatK] at hj
  have h1 : (d.toList.flatMap encB)[j]? = some (flatK encB 20 d)[j]! := by
    rw [← flatK_toList, Array.getElem?_toList, getElem!_pos _ j hjf, Array.getElem?_eq_getElem hjf]
  rw [← hc, List.getElem?_take, if_pos hj, Array.getElem?_toList] at h1
  refine ⟨?_, ?_⟩
  · simp only [World.cell?, hg, Option.bind_some, id_eq]
    rw [h1]; rfl
  · simp [World.frozen?, hg]
/-- The keys of a known map, rising. -/
theorem sortedI_known (w : World) (Bm b : Nat) (es : Array MapEntry) (kl sl : List IdB) (hkeys : es.toList.map (·.key) = kl.map fun k => Value.agg (encB k).toArray) (hborn : ∀ (i : Nat) (x : MapEntry), es[i]? = some x → x.born = i) (hsz : es.size ≤ 1099511627776) (hBm : Bm < w.heap.size)
    (hm : w.cell? ⟨Bm, 0, none⟩ = some (.map (some b))) (hown : w.heap[b]? = some (.map es es.size)) (hs : sl.Pairwise (fun x y => ltBytes x.l y.l = true)) (hp : sl.Perm kl) (hne : sl ≠ []) :
    Calls Tryz.prog 10 #[.func (.func 22) #[] #[.pointer (some ⟨Bm, 0, none⟩)], .func (.func 12) #[] #[]] w fun e w' => ∃ v, e = .returned v ∧ w'.ownsRow w.heap.size 28 20 v sl.length (sl.flatMap encB) ∧ v ≠ .slice none 0 0 ∧ Below w.heap.size w w' := by
  have hlen0 : sl.length ≠ 0 := by simpa using hne
  have hkl : kl.length = es.size := by have := congrArg List.length hkeys; simpa using this.symm
  have hsl : sl.length = kl.length := hp.length_eq
  refine (sortedI_calls w _ sl.length
    (fun g cap w1 => ∃ (d : Array IdB) (cur : Array Value), d.size = sl.length ∧ d.toList.Perm kl ∧ w.heap.size ≤ g ∧ w1.heap[g]? = some (.cells cur 28 (0, 0)) ∧ sl.length ≤ cap ∧ cap ≤ maxLen ∧ cur.size = cap * 20 ∧ cur.toList.take (sl.length * 20) = d.toList.flatMap encB ∧ Below w.heap.size w w1)
    (fun g cap w2 => w2.ownsRow w.heap.size 28 20 (.slice (some ⟨g, 0, none⟩) sl.length cap) sl.length (sl.flatMap encB) ∧ Below w.heap.size w w2) ?_ ?_).mono ?_
  · refine (collect_known w Bm b es (fun e he => ?_) hborn hsz hBm hm hown).mono ?_
    · have : e.key ∈ kl.map fun k => Value.agg (encB k).toArray := hkeys ▸ List.mem_map.2 ⟨e, he, rfl⟩
      obtain ⟨k, _, hk⟩ := List.mem_map.1 this
      refine ⟨(encB k).toArray, hk.symm, by simp [encB_len], ?_⟩
      rw [Array.all_eq_true_iff_forall_mem]
      intro v hv
      exact encB_one k v (by simpa using hv)
    · rintro e w1 ⟨v, ss, rfl, hperm, hrow, hnil, hb⟩
      rw [hkeys] at hperm
      obtain ⟨qs, hq1, hq2⟩ := perm_lift _ _ _ hperm
      have hql : qs.length = ss.length := by have := congrArg List.length hq2; simpa using this
      have hn : ss.length = sl.length := by rw [← hql, hq1.length_eq, hsl]
      have hflat : ss.flatMap keyCells = qs.flatMap encB := by
        have key : ∀ (qs : List IdB) (ss : List IdK), qs.map (fun k => Value.agg (encB k).toArray) = ss.map (fun k => Value.agg k.kc) → ss.flatMap keyCells = qs.flatMap encB := by
          intro qs
          induction qs with
          | nil => intro ss h; cases ss with
            | nil => rfl
            | cons s r => cases h
          | cons q r ih =>
            intro ss h
            cases ss with
            | nil => cases h
            | cons s t =>
              simp only [List.map_cons, List.cons.injEq, Value.agg.injEq] at h
              simp only [List.flatMap_cons, ih t h.2]
              have : keyCells s = encB q := by show s.kc.toList = _; rw [← h.1]
              rw [this]
        exact key qs ss hq2
      rw [hn, hflat] at hrow
      rcases hrow.2 with ⟨_, h0⟩ | ⟨g, cap, cur, rfl, hbase, hgb, r1, r2, r3, r4⟩
      · exact absurd h0 hlen0
      · exact ⟨g, cap, rfl, qs.toArray, cur, by simp [hql, hn], by simpa using hq1, hbase, hgb, r1, r2, r3, by simpa using r4, hb⟩
  · rintro g cap w1 ⟨d, cur, hd1, hd2, hbase, hgb, r1, r2, r3, r4, hb⟩
    have hglt : g < w1.heap.size := (Array.getElem?_eq_some_iff.1 hgb).1
    have hH := holds_row w1 g d cur _ hgb (by rw [hd1]; exact r4)
    have hsort := AnyQ.slices_SortFunc Tryz.laysSortI 20 sortI_agg sortI_size encB encB_len encB_one cfB swoB 12 #[] g 0 cap d w1 (enters_of Tryz.func12 (by kernel_rfl) rfl) (less_lays g 0 d.size w1) hH hglt (by rw [hd1, hsl, hkl]; omega)
    rw [hd1] at hsort
    refine Calls.mono (show Calls Tryz.prog 21 _ _ _ from hsort) ?_
    rintro e w2 ⟨rfl, d', n, os, hpi, hsi, rfl⟩
    have hd's : d'.size = d.size := hpi.1
    have hperm : d'.toList.Perm d.toList := by
      have := hpi.2.2
      have e1 : d.extract 0 sl.length = d := by rw [← hd1]; exact Array.extract_size
      have e2 : d'.extract 0 sl.length = d' := by rw [← hd1, ← hd's]; exact Array.extract_size
      rw [e1, e2] at this
      exact this
    have hsorted : d'.toList = sl := sorted_unique _ _ ((hperm.trans hd2).trans hp.symm) (sortedIn_pairwise (by rw [hd's, hd1]; exact hsi)) hs
    have hsize : d'.size = sl.length := by rw [hd's, hd1]
    obtain ⟨cur', q1, q2, q3, q4, q5, q6, q7, q8⟩ := sortWorld_at w1 g n d' os cur 28 (0, 0) hgb (by rw [hsize, r3]; exact Nat.mul_le_mul_right 20 r1)
    refine ⟨rfl, ⟨?_, .inr ⟨g, cap, cur', rfl, hbase, q1, r1, r2, by rw [q2, r3], by rw [← hsize, q3, hsorted]⟩⟩, ?_⟩
    · have : ∀ l : List IdB, (l.flatMap encB).length = l.length * 20 := by
        intro l
        induction l with
        | nil => rfl
        | cons x r ih => simp only [List.flatMap_cons, List.length_append, encB_len, ih, List.length_cons]; omega
      exact this sl
    · exact ⟨q6.trans hb.os, q7.trans hb.tape, q8.trans hb.output, Nat.le_trans hb.size q5, fun k hk => (q4 k (by omega) (Nat.lt_of_lt_of_le hk hb.size)).trans (hb.block k hk)⟩
  · rintro e w' ⟨g, cap, rfl, h1, h2⟩
    exact ⟨_, rfl, h1, by simp, h2⟩
end Go.Proofs.YtjnjcielihgagabGreatDoor

