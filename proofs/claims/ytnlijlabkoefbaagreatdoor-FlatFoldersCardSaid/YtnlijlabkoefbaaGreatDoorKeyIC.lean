/-
  slices.AppendSeq over an iterator that gives ids: one round.
-/
import Derived.Test.YtnlijlabkoefbaaGreatDoorKeyIB
import Derived.Maps.AppendAt
set_option linter.unusedVariables false
set_option linter.unusedSimpArgs false
namespace Go.Proofs.YtnlijlabkoefbaaGreatDoor
open Go Go.RowKit Go.Shelf Go.Maps

attribute [local go_sem] Oper.semAt_some


def apAssign : Code := (Code.region 2 #[{ dst := some 5, op := Op.alloc 26, type := 0, pos := "iter.go:51", after := #[], guard := none }, { dst := none, op := Op.store 26 (Operand.tmp 5) (Operand.tmp 7), type := 0, pos := "iter.go:51", after := #[{ on := 0, ground := Ground.data }, { on := 0, ground := Ground.phase }], guard := none }] false)
def apBody : Code := (Code.block 1 (Code.region 3 #[{ dst := some 8, op := Op.load 36 (Operand.tmp 2), type := 36, pos := "iter.go:52", after := #[], guard := none }, { dst := some 9, op := Op.load 26 (Operand.tmp 5), type := 26, pos := "iter.go:52", after := #[], guard := none }, { dst := some 10, op := Op.buildSlice 36 1 #[(0, Operand.tmp 9)], type := 36, pos := "iter.go:52", after := #[{ on := 1, ground := Ground.data }], guard := none }, { dst := some 11, op := Op.call { callee := Callee.builtin Builtin.append, args := #[Operand.tmp 8, Operand.tmp 10], argTypes := #[36, 36] }, type := 36, pos := "iter.go:52", after := #[{ on := 0, ground := Ground.data }, { on := 2, ground := Ground.data }], guard := none }, { dst := none, op := Op.store 36 (Operand.tmp 2) (Operand.tmp 11), type := 0, pos := "iter.go:52", after := #[{ on := 3, ground := Ground.data }, { on := 3, ground := Ground.chain }, { on := 0, ground := Ground.phase }, { on := 1, ground := Ground.phase }, { on := 2, ground := Ground.phase }, { on := 3, ground := Ground.phase }], guard := none }] false))
/-- The loop's record. -/
def apRec (fn : FuncId) (sv : Value) (Bs D : Nat) (st : LoopState) (pend : Option Code) : Loop :=
  { state := st, pending := pend, fn, tmps := #[.slice none 0 0, sv, .pointer (some ⟨Bs, 0, none⟩), undef, .slice none 0 0, undef, sv, undef, undef, undef, undef, undef, undef], params := #[7], assign := apAssign, body := apBody, defers := D }

/-- A key's cells. -/
def keyCells (k : IdK) : List Value := k.kc.toList
/-- Between two rounds: the box holds a slice that owns what has come so far. -/
structure ApAt (w0 : World) (fn : FuncId) (sv : Value) (Bs l D : Nat) (ss : List IdK) (W : World) : Prop where
  box : ∃ v, W.heap[Bs]? = some (.cells #[v] 36 (0, 0)) ∧ W.ownsRow w0.heap.size 26 20 v ss.length (ss.flatMap keyCells) ∧ (v = .slice none 0 0 ↔ ss = [])
  L : W.heap[l]? = some (.loop (apRec fn sv Bs D .ready none))
  K : W.heap[D]? = some (.deferred (some []))
  below : Below w0.heap.size w0 W

theorem ownsRow_abides_q {W W' : World} {row : Option Nat} {base : Nat} {e : TypeId} {size : Nat} {v : Value} {k : Nat} {xs : List Value} (h : W.ownsRow base e size v k xs) (hg : W.grownBy W' row)
    (hrow : ∀ r, row = some r → ∃ o : Obj, W.heap[r]? = some o ∧ o.isWalk = true) : W'.ownsRow base e size v k xs := by
  refine h.kept hg ?_
  rcases h.2 with ⟨rfl, _⟩ | ⟨g, cap, cur, rfl, _, hgb, _⟩
  · exact .inl rfl
  · refine .inr fun e' => ?_
    obtain ⟨o, ho, hw⟩ := hrow g (by simpa [Value.ownBlock] using e'.symm)
    rw [hgb] at ho; cases ho; cases hw

theorem ap_abides (w0 : World) (fn : FuncId) (sv : Value) (Bs l D B : Nat) (hB : w0.heap.size ≤ B) : AbidesFrom B (ApAt w0 fn sv Bs l D) := fun s W W' row h hg hrow => by
  have hrow' : ∀ r, row = some r → ∃ o : Obj, W.heap[r]? = some o ∧ o.isWalk = true := fun r e => (hrow r e).2
  obtain ⟨v, hv, hr, hn⟩ := h.box
  exact ⟨⟨v, (grownBy_keeps hg hrow' hv rfl).trans hv, ownsRow_abides_q hr hg hrow', hn⟩, (grownBy_keeps hg hrow' h.L rfl).trans h.L, (grownBy_keeps hg hrow' h.K rfl).trans h.K,
    h.below.grown hg h.below.size (fun k e => Nat.le_trans hB (hrow k e).1)⟩

theorem grownBy_setCell0_q (W : World) (b : Nat) (v : Value) : W.grownBy (W.setCell ⟨b, 0, none⟩ v) (some b) :=
  ⟨rfl, rfl, rfl, (KeepsWalks.setCell W _ v).size, fun k _ hk => Below.heap_setCell _ _ _ k (fun e => hk (by rw [e]))⟩
theorem ownsRow_ne_q {W : World} {base : Nat} {e : TypeId} {size : Nat} {v : Value} {k : Nat} {xs : List Value} (h : W.ownsRow base e size v k xs) {j : Nat} {o : Obj} (hj : W.heap[j]? = some o) (hno : ∀ cur, o ≠ .cells cur e (0, 0)) :
    v.ownBlock = none ∨ v.ownBlock ≠ some j := by
  rcases h.2 with ⟨rfl, _⟩ | ⟨g, cap, cur, rfl, _, hgb, _⟩
  · exact .inl rfl
  · refine .inr fun e' => ?_
    have : g = j := by simpa [Value.ownBlock] using e'
    subst this; rw [hgb] at hj; cases hj; exact hno cur rfl
theorem cell_of_box_q {W : World} {B : Nat} {v : Value} {t : TypeId} (h : W.heap[B]? = some (.cells #[v] t (0, 0))) : W.cell? ⟨B, 0, none⟩ = some v ∧ W.frozen? ⟨B, 0, none⟩ = false := by
  constructor <;> simp [World.cell?, World.frozen?, h]
theorem heap_setCell_box_q {W : World} {B : Nat} {v : Value} {t : TypeId} (v' : Value) (h : W.heap[B]? = some (.cells #[v] t (0, 0))) : (W.setCell ⟨B, 0, none⟩ v').heap[B]? = some (.cells #[v'] t (0, 0)) := by
  obtain ⟨hlt, hk⟩ := Array.getElem?_eq_some_iff.1 h
  show (W.heap.modify B _)[B]? = _
  rw [Array.getElem?_eq_getElem (by rw [Array.size_modify]; exact hlt), Array.getElem_modify_self, hk]
  rfl

theorem exec_load_at {w : World} {c : Array Value} {b : Nat} {p : Operand} {ρ : Operand → Value} (hc : c.size = 20) (hb : w.heap[b]? = some (.cells c 26 (0, 0)))
    (hp : ρ p = .pointer (some ⟨b, 0, none⟩)) (d : Option Tmp) (ty : TypeId) (pos : String) (af : Array Edge) :
    (execOp ρ ⟨d, .load 26 p, ty, pos, af, none⟩).run Tryz.prog w = .ok (.value (.agg c)) w := by
  have := run_loadVar_row (P := Tryz.prog) w _ 26 26 c (0, 0) _ hb Tryz.underlying26 rfl (infoIdSize hc)
  simp only [execOp, hp, Instr.loadAt, Instr.sureAddr, Sem.run_bind, Sem.run_pure, Result.andThen, this]
theorem ownsRow_not_walk_q {W : World} {base : Nat} {e : TypeId} {size : Nat} {v : Value} {k : Nat} {xs : List Value} (h : W.ownsRow base e size v k xs) : ∀ (j : Nat) (o : Obj), v.ownBlock = some j → W.heap[j]? = some o → o.isWalk = false := by
  intro j o hj ho
  rcases h.2 with ⟨rfl, _⟩ | ⟨g, cap, cur, rfl, _, hgb, _⟩
  · simp [Value.ownBlock] at hj
  · have : g = j := by simpa [Value.ownBlock] using hj
    subst this; rw [hgb] at ho; cases ho; rfl

set_option maxRecDepth 100000 in
set_option maxHeartbeats 2000000 in
theorem apYield (F : Fence) (m : Nat) (w0 : World) (fn : FuncId) (hfn : F.fn fn) (sv : Value) (Bs l D : Nat) (hBl : Bs ≠ l) (hDl : D ≠ l) (hDB : D ≠ Bs) (h0B : w0.heap.size ≤ Bs) (h0l : w0.heap.size ≤ l)
    (N : Nat) (hN : N ≤ maxLen) (hNb : N * 20 ≤ 140737488355328) (ss : List IdK) (x : IdK) (W : World) (h : ApAt w0 fn sv Bs l D ss W) (hlen : ss.length < N) :
    YieldAt F m Tryz.prog l #[.agg x.kc] W fun e W' => e = .returned (.bool true) ∧ ApAt w0 fn sv Bs l D (ss ++ [x]) W' ∧ KeepsWalks W W' := by
  obtain ⟨i0, hi, hz0, hz1, hz2⟩ := info_parts infoId
  obtain ⟨v, hv, hrow, _⟩ := h.box
  obtain ⟨kc, hkc, hk1⟩ := x
  have hkx : keyCells ⟨kc, hkc, hk1⟩ = kc.toList := rfl
  refine ⟨fn, #[.slice none 0 0, sv, .pointer (some ⟨Bs, 0, none⟩), undef, .slice none 0 0, undef, sv, .agg kc, undef, undef, undef, undef, undef], apAssign, apBody, by simpa [apRec] using run_yield (P := Tryz.prog) (args := #[.agg kc]) h.L rfl, roundIn_of_wpIn hfn ?_⟩
  have hl : l < W.heap.size := (Array.getElem?_eq_some_iff.1 h.L).1
  have hBlt : Bs < W.heap.size := (Array.getElem?_eq_some_iff.1 hv).1
  have hDlt : D < W.heap.size := (Array.getElem?_eq_some_iff.1 h.K).1
  obtain ⟨W2, hW2⟩ : ∃ W2, W.alloc (.cells kc 26) = W2 := ⟨_, rfl⟩
  have hk2 : KeepsWalks W W2 := by rw [← hW2]; exact KeepsWalks.alloc _ _
  have hv2 : W2.heap[Bs]? = some (.cells #[v] 36 (0, 0)) := by rw [← hW2]; exact (Below.heap_alloc _ _ Bs hBlt).trans hv
  have hK2 : W2.heap[D]? = some (.deferred (some [])) := by rw [← hW2]; exact (Below.heap_alloc _ _ D hDlt).trans h.K
  have hL2 : W2.heap[l]? = some (.loop (apRec fn sv Bs D .ready none)) := by rw [← hW2]; exact (Below.heap_alloc _ _ l hl).trans h.L
  have hrow2 : W2.ownsRow w0.heap.size 26 20 v ss.length (ss.flatMap keyCells) := by rw [← hW2]; exact hrow.alloc _
  have hb2 : Below w0.heap.size w0 W2 := by rw [← hW2]; exact h.below.alloc h.below.size _
  have hs2 : W2.heap.size = W.heap.size + 1 := by rw [← hW2]; simp
  have hr2 : W2.heap[W.heap.size]? = some (.cells kc 26 (0, 0)) := by rw [← hW2]; exact World.alloc_heap_new W _
  have hbr := run_beginRound (P := Tryz.prog) hL2 rfl
  obtain ⟨W3, hW3⟩ : ∃ W3, W2.putObj l (.loop { apRec fn sv Bs D .ready none with state := .busy }) = W3 := ⟨_, rfl⟩
  rw [hW3] at hbr
  have hg3 : W2.grownBy W3 (some l) := by rw [← hW3]; exact grownBy_putObj' _ _ _
  have hk3 : KeepsWalks W2 W3 := by rw [← hW3]; exact KeepsWalks.putObj _ hL2 rfl
  have hl2 : l < W2.heap.size := (Array.getElem?_eq_some_iff.1 hL2).1
  have hv3 : W3.heap[Bs]? = some (.cells #[v] 36 (0, 0)) := by rw [← hW3]; exact (World.putObj_heap_other hBl).trans hv2
  have hK3 : W3.heap[D]? = some (.deferred (some [])) := by rw [← hW3]; exact (World.putObj_heap_other hDl).trans hK2
  have hL3 : W3.heap[l]? = some (.loop { apRec fn sv Bs D .ready none with state := .busy }) := by rw [← hW3]; exact World.putObj_heap_same hl2
  have hr3 : W3.heap[W.heap.size]? = some (.cells kc 26 (0, 0)) := by rw [← hW3]; exact (World.putObj_heap_other (by omega)).trans hr2
  have hrow3 : W3.ownsRow w0.heap.size 26 20 v ss.length (ss.flatMap keyCells) := hrow2.kept hg3 (ownsRow_ne_q hrow2 hL2 (fun cur e => by cases e))
  have hb3 : Below w0.heap.size w0 W3 := hb2.grown hg3 hb2.size (fun k e => by cases e; exact h0l)
  have hs3 : W3.heap.size = W.heap.size + 1 := by rw [← hW3, ← hs2]; simp
  obtain ⟨hc3, hf3⟩ := cell_of_box_q hv3
  have ne_of : ∀ {j : Nat} {o : Obj}, W3.heap[j]? = some o → (∀ cur, o ≠ .cells cur 26 (0, 0)) → some j ≠ v.ownBlock := fun hj hno => by
    rcases ownsRow_ne_q hrow3 hj hno with e | e
    · rw [e]; simp
    · exact fun e' => e e'.symm
  have hnews : ∀ j u, kc.toList[j]? = some u → (W3.alloc (.cells kc 26)).cell? ((⟨W3.heap.size, 0, none⟩ : Addr).add j) = some u := fun j u hu => by
    have hadd : (⟨W3.heap.size, 0, none⟩ : Addr).add j = ⟨W3.heap.size, j, none⟩ := by unfold Addr.add; split <;> simp_all
    have hnew := World.alloc_heap_new W3 (.cells kc 26)
    rw [hadd, cell_of_row _ _ j kc 26 (0, 0) hnew]
    simpa using hu
  have hone : ∀ u ∈ kc.toList, u.oneCell' = true := fun u hu => by
    have := Array.all_eq_true'.1 hk1 u (Array.mem_toList_iff.1 hu)
    exact this
  unfold apAssign
  gi_wp2_with (first
    | (refine wpListIn_op_val rfl (fun c h => by cases h) (fun c h => by cases h) (exec_alloc_row (zeroId _) _ _ _ _ _) ?_)
    | (refine wpListIn_op_skip rfl (fun c h => by cases h) (fun c h => by cases h) (exec_store_row (z := Array.replicate 20 (.int .u8 0)) (c := kc) (infoIdSize hkc) (by rw [hkc, Array.size_replicate]) hk1 rfl rfl _ _ _ _) ?_; rw [hW2])
    | (rw [Oper.semAt_eq _ _ _ (fun c h => by cases h)]; go_simp; try go_bits))
  unfold apBody
  gi_wp2_with (first
    | (refine wpListIn_op_val rfl (fun c h => by cases h) (fun c h => by cases h) (exec_load_at hkc hr3 rfl _ _ _ _) ?_)
    | (refine wpListIn_op_val rfl (fun c h => by cases h) (fun c h => by cases h) (exec_buildSlice_id hkc rfl _ _ _ _) ?_)
    | (gi_at_builtin; refine wpListIn_append_own _ rfl _ _ 36 rfl w0.heap.size 26 i0 (.agg (Array.replicate 20 (.int .u8 0))) 20 20 Tryz.underlying36 hi hz0 hz1 hz2 rfl (by decide) v ss.length (ss.flatMap keyCells) rfl (hrow3.alloc _) ⟨W3.heap.size, 0, none⟩ 1 1 kc.toList rfl (by simp [hkc]) hnews hone (by omega) (by omega) (by have := hb3.size; simp; omega) ?_; intro v' w4 hown' hg4 hnil4
       have hv4 : w4.heap[Bs]? = some (.cells #[v] 36 (0, 0)) := (hg4.block Bs (by simp; omega) (ne_of hv3 (fun cur e => by cases e))).trans ((Below.heap_alloc _ _ Bs (by omega)).trans hv3)
       obtain ⟨hc4, hf4⟩ := cell_of_box_q hv4
       obtain ⟨g', cap', cur', rfl, hbase', hgb', hr1, hr2, hr3, hr4⟩ : ∃ g' cap' cur', v' = .slice (some ⟨g', 0, none⟩) (ss.length + 1) cap' ∧ w0.heap.size ≤ g' ∧ w4.heap[g']? = some (.cells cur' 26 (0, 0)) ∧ ss.length + 1 ≤ cap' ∧ cap' ≤ maxLen ∧ cur'.size = cap' * 20 ∧ cur'.toList.take ((ss.length + 1) * 20) = ss.flatMap keyCells ++ kc.toList := by
         rcases hown'.2 with ⟨_, h0⟩ | h'
         · exact absurd h0 (by omega)
         · exact h'
       go_frame)
    | (rw [Oper.semAt_eq _ _ _ (fun c h => by cases h)]; go_simp; try go_bits))
  have hg4' : (W3.alloc (.cells kc 26)).grownBy w4 v.ownBlock := hg4
  have hL4 : w4.heap[l]? = some (.loop { apRec fn sv Bs D .ready none with state := .busy }) := (hg4'.block l (by simp; omega) (ne_of hL3 (fun cur e => by cases e))).trans ((Below.heap_alloc _ _ l (by omega)).trans hL3)
  have hK4 : w4.heap[D]? = some (.deferred (some [])) := (hg4'.block D (by simp; omega) (ne_of hK3 (fun cur e => by cases e))).trans ((Below.heap_alloc _ _ D (by omega)).trans hK3)
  obtain ⟨w5, hw5⟩ : ∃ w5, w4.setCell ⟨Bs, 0, none⟩ (.slice (some ⟨g', 0, none⟩) (ss.length + 1) cap') = w5 := ⟨_, rfl⟩
  rw [hw5]
  have hg5 : w4.grownBy w5 (some Bs) := by rw [← hw5]; exact grownBy_setCell0_q _ _ _
  have hv5 : w5.heap[Bs]? = some (.cells #[.slice (some ⟨g', 0, none⟩) (ss.length + 1) cap'] 36 (0, 0)) := by rw [← hw5]; exact heap_setCell_box_q _ hv4
  have hL5 : w5.heap[l]? = some (.loop { apRec fn sv Bs D .ready none with state := .busy }) := (hg5.block l (Array.getElem?_eq_some_iff.1 hL4).1 (fun e => hBl (by cases e; rfl))).trans hL4
  have hK5 : w5.heap[D]? = some (.deferred (some [])) := (hg5.block D (Array.getElem?_eq_some_iff.1 hK4).1 (fun e => hDB (by cases e; rfl))).trans hK4
  have hrow5 := hown'.kept hg5 (ownsRow_ne_q hown' hv4 (fun cur e => by cases e))
  have hl5 : l < w5.heap.size := (Array.getElem?_eq_some_iff.1 hL5).1
  have hb4 : Below w0.heap.size w0 w4 := (hb3.alloc hb3.size _).grown hg4' (by have := hb3.size; simp; omega) (fun k e => (hrow3.lt k e).1)
  have hb5 : Below w0.heap.size w0 w5 := hb4.grown hg5 hb4.size (fun k e => by cases e; exact h0B)
  have hk5 : KeepsWalks W w5 := ((((hk2.trans hk3).trans (KeepsWalks.alloc _ _))).trans (KeepsWalks.of_grownBy hg4' (ownsRow_not_walk_q (hrow3.alloc _)))).trans (by rw [← hw5]; exact KeepsWalks.setCell _ _ _)
  clear hw5
  refine ⟨_, _, run_endRound none hL5, rfl, ⟨⟨_, (World.putObj_heap_other hBl).trans hv5, ?_, by simp⟩, World.putObj_heap_same hl5, (World.putObj_heap_other hDl).trans hK5, hb5.grown (grownBy_putObj' _ _ _) hb5.size (fun k e => by cases e; exact h0l)⟩, hk5.trans (KeepsWalks.putObj _ hL5 rfl)⟩
  have := hrow5.kept (grownBy_putObj' w5 l (.loop { { apRec fn sv Bs D .ready none with state := .busy } with state := if (none : Option Code).isNone then .ready else .done, pending := none })) (ownsRow_ne_q hrow5 hL5 (fun cur e => by cases e))
  rw [List.flatMap_append, List.length_append]
  simpa [hkx] using this
end Go.Proofs.YtnlijlabkoefbaaGreatDoor
