/-
  slices.AppendSeq and slices.Collect over maps.Keys of a map of one entry whose key is an id (twenty bytes).
-/
import Derived.Test.YtnlijlabkoefbaaGreatDoorKeysA
import Derived.RangeFuncGives
import Derived.Deep.WholeRow
import Derived.Laws.IdiomRangeMap
import Derived.Test.YtnlijlabkoefbaaGreatDoorChecked
set_option linter.unusedVariables false
set_option linter.unusedSimpArgs false
namespace Go.Proofs.YtnlijlabkoefbaaGreatDoor
open Go Go.RowKit Go.Shelf

section
variable {F : Fence} {n : Nat} {P : Program} {ops : Array Oper} {Q : Exit → Act → World → Prop} {o : Oper} {rest : List Oper} {a : Act} {w : World}
/-- One operation that is no call and no defer, whose result is known. -/
theorem wpListIn_op_val (hg : o.guard = none) (hnc : ∀ c, o.op ≠ .call c) (hnd : ∀ c, o.op ≠ .defer c) {v : Value} {w' : World} (hrun : (execOp a.eval o).run P w = .ok (.value v) w')
    (hK : wpListIn F n P ops Q rest (a.put o.dst v) w') : wpListIn F n P ops Q (o :: rest) a w := by
  refine wpListIn_plain hg fun K' hK' => ?_
  unfold Oper.wpIn
  refine ⟨fun f hf => ?_, ?_⟩
  · unfold Oper.about at hf
    split at hf
    · rename_i c hc; exact absurd hc (hnc c)
    · cases hf
  rw [Oper.semAt_plain F _ _ hnd, hrun]
  exact hK' _ _ hK
theorem wpListIn_op_skip (hg : o.guard = none) (hnc : ∀ c, o.op ≠ .call c) (hnd : ∀ c, o.op ≠ .defer c) {w' : World} (hrun : (execOp a.eval o).run P w = .ok .skip w')
    (hK : wpListIn F n P ops Q rest (a.put o.dst undef) w') : wpListIn F n P ops Q (o :: rest) a w := by
  refine wpListIn_plain hg fun K' hK' => ?_
  unfold Oper.wpIn
  refine ⟨fun f hf => ?_, ?_⟩
  · unfold Oper.about at hf
    split at hf
    · rename_i c hc; exact absurd hc (hnc c)
    · cases hf
  rw [Oper.semAt_plain F _ _ hnd, hrun]
  exact hK' _ _ hK
end

/-- A fresh row that is stored over whole. -/
theorem exec_alloc_row {P : Program} {w : World} {T : TypeId} {z : Array Value} (hz : (zeroValue T).run P w = .ok (.agg z) w) (d : Option Tmp) (ty : TypeId) (pos : String) (af : Array Edge) (ρ : Operand → Value) :
    (execOp ρ ⟨d, .alloc T, ty, pos, af, none⟩).run P w = .ok (.value (.pointer (some ⟨w.heap.size, 0, none⟩))) (w.alloc (.cells z T)) := by
  simp [execOp, Instr.alloc, hz, newVar, newRow, Value.cells]
theorem exec_store_row {P : Program} {w : World} {T : TypeId} {z c : Array Value} {p x : Operand} {ρ : Operand → Value} (hi : (P.info? T).map (·.size) = some c.size) (hs : z.size = c.size) (h1 : c.all (·.oneCell') = true)
    (hp : ρ p = .pointer (some ⟨w.heap.size, 0, none⟩)) (hx : ρ x = .agg c) (d : Option Tmp) (ty : TypeId) (pos : String) (af : Array Edge) :
    (execOp ρ ⟨d, .store T p x, ty, pos, af, none⟩).run P (w.alloc (.cells z T)) = .ok .skip (w.alloc (.cells c T)) := by
  simp [execOp, hp, hx, run_storeAt_new (P := P) w T z c hi hs h1]
theorem exec_load_row {P : Program} {w : World} {T e : TypeId} {n : Nat} {c : Array Value} {p : Operand} {ρ : Operand → Value} (hi : (P.info? T).map (·.size) = some c.size) (hu : P.underlying T = some (.array n e))
    (hp : ρ p = .pointer (some ⟨w.heap.size, 0, none⟩)) (d : Option Tmp) (ty : TypeId) (pos : String) (af : Array Edge) :
    (execOp ρ ⟨d, .load T p, ty, pos, af, none⟩).run P (w.alloc (.cells c T)) = .ok (.value (.agg c)) (w.alloc (.cells c T)) := by
  simp [execOp, hp, run_loadAt_new (P := P) w T c n e hu hi]

theorem infoId : (Tryz.prog.info? 26).map (fun i => (i.zero, i.size, i.bytes)) = some (some (.agg (Array.replicate 20 (.int .u8 0))), 20, 20) := by kernel_rfl
theorem infoIdSize {c : Array Value} (h : c.size = 20) : (Tryz.prog.info? 26).map (·.size) = some c.size := by
  rw [h]; kernel_rfl
theorem zeroId (w : World) : (zeroValue 26).run Tryz.prog w = .ok (.agg (Array.replicate 20 (.int .u8 0))) w :=
  (zero_of_info (P := Tryz.prog) (t := 26) (v := .agg (Array.replicate 20 (.int .u8 0))) (n := 20) (by kernel_rfl)).1 w

theorem fill20 (k0 k1 k2 k3 k4 k5 k6 k7 k8 k9 k10 k11 k12 k13 k14 k15 k16 k17 k18 k19 : Value) : Instr.fill (fun i => some (i * 20, 20)) ((Array.range 20).map fun i => [Value.int .u8 0, Value.int .u8 0, Value.int .u8 0, Value.int .u8 0, Value.int .u8 0, Value.int .u8 0, Value.int .u8 0, Value.int .u8 0, Value.int .u8 0, Value.int .u8 0, Value.int .u8 0, Value.int .u8 0, Value.int .u8 0, Value.int .u8 0, Value.int .u8 0, Value.int .u8 0, Value.int .u8 0, Value.int .u8 0, Value.int .u8 0, Value.int .u8 0][i % 20]?.getD default) [(0, .agg #[k0, k1, k2, k3, k4, k5, k6, k7, k8, k9, k10, k11, k12, k13, k14, k15, k16, k17, k18, k19])] = some #[k0, k1, k2, k3, k4, k5, k6, k7, k8, k9, k10, k11, k12, k13, k14, k15, k16, k17, k18, k19] := by kernel_rfl
theorem fill20' {c : Array Value} (h : c.size = 20) : Instr.fill (fun i => some (i * 20, 20)) ((Array.range 20).map fun i => [Value.int .u8 0, Value.int .u8 0, Value.int .u8 0, Value.int .u8 0, Value.int .u8 0, Value.int .u8 0, Value.int .u8 0, Value.int .u8 0, Value.int .u8 0, Value.int .u8 0, Value.int .u8 0, Value.int .u8 0, Value.int .u8 0, Value.int .u8 0, Value.int .u8 0, Value.int .u8 0, Value.int .u8 0, Value.int .u8 0, Value.int .u8 0, Value.int .u8 0][i % 20]?.getD default) [(0, .agg c)] = some c := by
  obtain ⟨l⟩ := c
  have h : l.length = 20 := h
  match l, h with
  | [k0, k1, k2, k3, k4, k5, k6, k7, k8, k9, k10, k11, k12, k13, k14, k15, k16, k17, k18, k19], _ => exact fill20 k0 k1 k2 k3 k4 k5 k6 k7 k8 k9 k10 k11 k12 k13 k14 k15 k16 k17 k18 k19
theorem exec_buildSlice_id {w : World} {c : Array Value} {x : Operand} {ρ : Operand → Value} (hc : c.size = 20) (hx : ρ x = .agg c) (d : Option Tmp) (ty : TypeId) (pos : String) (af : Array Edge) :
    (execOp ρ ⟨d, .buildSlice 36 1 #[(0, x)], ty, pos, af, none⟩).run Tryz.prog w = .ok (.value (.slice (some ⟨w.heap.size, 0, none⟩) 1 1)) (w.alloc (.cells c 26)) := by
  have hu := Tryz.underlying36
  have hs : (sizeOf 26).run Tryz.prog w = .ok 20 w := by
    have h := infoIdSize hc
    cases hq : Tryz.prog.info? 26 with
    | none => rw [hq] at h; cases h
    | some i => rw [hq] at h; simp [sizeOf, typeInfo, hq]; simpa [hc] using h
  have hz := zeroId w
  have hf := fill20' hc
  simp only [execOp, Instr.buildSlice, underlying, Sem.run_bind]
  simp [hu, hs, hz, newRow, Value.cells, hx]
  split
  · rename_i cells hcells
    obtain rfl : c = cells := Option.some.inj (hf.symm.trans hcells)
    simp [go_sem]
  · rename_i hno
    exact absurd hf (hno _)

variable {H : Type}

set_option maxRecDepth 100000 in
set_option maxHeartbeats 2000000 in
/-- maps.Keys of a map of one entry: its iterator gives the one key. -/
theorem keys_one_gives (F : Fence) (n : Nat) (h10 : F.fn 61) (hro : F.round = none) (hn : 1 ≤ n) (Bm b : Nat) (e : MapEntry) (kc : Array Value) (hk : kc.size = 20) (hk1 : kc.all (·.oneCell') = true) (hek : e.key = .agg kc) (heb : e.born = 0) (w : World) (hBm : Bm < w.heap.size)
    (hm : w.cell? ⟨Bm, 0, none⟩ = some (.map (some b))) (hown : w.heap[b]? = some (.map #[e] 1)) :
    SeqGives (α := Unit) F n Tryz.prog 61 #[.pointer (some ⟨Bm, 0, none⟩)] (fun _ => .agg kc) (fun xs => xs = [()]) 1 w := by
  intro l J W hW hJ hY h0
  have hm' : W.cell? ⟨Bm, 0, none⟩ = some (.map (some b)) := (hW.cell (p := ⟨Bm, 0, none⟩) hBm).trans hm
  have hown' : W.heap[b]? = some (.map #[e] 1) := (hW.block b (Array.getElem?_eq_some_iff.1 hown).1).trans hown
  have hblt : b < W.heap.size := (Array.getElem?_eq_some_iff.1 hown').1
  refine callsIn_of_wp Tryz.func61 rfl h10 ?_ hro
  simp only [Tryz.ntmps61, List.size_toArray, List.length_cons, List.length_nil, Nat.reduceAdd, Nat.reduceSub, Array.replicate_succ, Array.replicate_zero, List.push_toArray, List.append_toArray, List.nil_append, List.cons_append]
  have hrg := run_range_map (P := Tryz.prog) W 69 26 _ b #[e] 1 Tryz.underlying69 hown'
  gi_wp2_with (first
    | (gi_at_range; refine wpListIn_op_val rfl (fun c h => by cases h) (fun c h => by cases h) (v := .pointer (some ⟨W.heap.size, 0, none⟩)) (w' := W.alloc (.mapIter (some b) 1 #[] 1)) (by simp [execOp, go_sem, hrg]) ?_)
    | gi_in)
  gi_loopw [3] (fun _ wr => (wr.heap[W.heap.size]? = some (.mapIter (some b) 1 #[] 1) ∧ wr.heap[b]? = some (.map #[e] 1) ∧ J [] wr) ∨ (wr.heap[W.heap.size]? = some (.mapIter (some b) 1 #[0] 1) ∧ wr.heap[b]? = some (.map #[e] 1) ∧ J [()] wr))
    (fun _ wr => match wr.heap[W.heap.size]? with | some (.mapIter _ _ seen _) => 1 - seen.size | _ => 0)
  case atStart =>
    refine .inl ⟨World.alloc_heap_new W _, ?_, ?_⟩
    · exact (Below.heap_alloc W _ b hblt).trans hown'
    · exact hJ [] W _ none h0 (World.grownBy_alloc W _ none) (fun r e => by cases e)
  case round =>
    rcases hrel with ⟨hit, hb, hJs⟩ | ⟨hit, hb, hJs⟩
    · have hg2 : wr.grownBy (wr.putObj W.heap.size (.mapIter (some b) 1 #[0] 1)) (some W.heap.size) := grownBy_putObj' _ _ _
      obtain ⟨w2, hw2⟩ : ∃ w2, wr.putObj W.heap.size (.mapIter (some b) 1 #[0] 1) = w2 := ⟨_, rfl⟩
      have hlt : W.heap.size < wr.heap.size := (Array.getElem?_eq_some_iff.1 hit).1
      have hit2 : w2.heap[W.heap.size]? = some (.mapIter (some b) 1 #[0] 1) := by rw [← hw2]; exact World.putObj_heap_same hlt
      have hb2 : w2.heap[b]? = some (.map #[e] 1) := by rw [← hw2]; exact (World.putObj_heap_other (by omega)).trans hb
      have hJ2 : J [] w2 := hJ [] wr w2 (some W.heap.size) hJs (hw2 ▸ hg2) (fun r e => by cases e; exact ⟨Nat.le_refl _, _, hit, rfl⟩)
      have hJ3 : J [] (w2.alloc (.cells kc 26)) := hJ [] w2 _ none hJ2 (World.grownBy_alloc _ _ none) (fun r e => by cases e)
      have hit3 : (w2.alloc (.cells kc 26)).heap[W.heap.size]? = some (.mapIter (some b) 1 #[0] 1) := (Below.heap_alloc _ _ _ (Array.getElem?_eq_some_iff.1 hit2).1).trans hit2
      have hb3 : (w2.alloc (.cells kc 26)).heap[b]? = some (.map #[e] 1) := (Below.heap_alloc _ _ _ (Array.getElem?_eq_some_iff.1 hb2).1).trans hb2
      obtain ⟨fn, tmps, assign, body, hy, hR⟩ := hY [] () _ hJ3 (by simp)
      gi_wp2_with (first
        | (gi_at_next; refine wpListIn_next_run rfl _ rfl rfl (next_first hit hb heb _) ?_; rw [hw2])
        | (refine wpListIn_entry_run rfl _ rfl rfl (entry_first hit2 hb2 heb) ?_; rw [hek])
        | (refine wpListIn_op_val rfl (fun c h => by cases h) (fun c h => by cases h) (exec_alloc_row (zeroId _) _ _ _ _ _) ?_)
        | (refine wpListIn_op_skip rfl (fun c h => by cases h) (fun c h => by cases h) (exec_store_row (z := Array.replicate 20 (.int .u8 0)) (c := kc) (infoIdSize hk) (by rw [hk, Array.size_replicate]) hk1 rfl rfl _ _ _ _) ?_)
        | (refine wpListIn_op_val rfl (fun c h => by cases h) (fun c h => by cases h) (exec_load_row (infoIdSize hk) Tryz.underlying26 rfl _ _ _ _) ?_)
        | gi_in)
      refine hR.mono ?_
      rintro e3 W3 ⟨rfl, hJ4, hk4⟩
      have hit4 := hk4.same _ _ hit3 rfl
      have hb4 := hk4.same _ _ hb3 rfl
      gi_wp2
      go_roundw
      case rel => exact .inr ⟨hit4, hb4, hJ4⟩
      case measure => simp [hit, hit4]
    · gi_wp2_with (first
        | (gi_at_next; refine wpListIn_next_run rfl _ rfl rfl (next_second hit hb heb _) ?_)
        | gi_in)
      go_end0
      exact ⟨⟨_, rfl⟩, [()], rfl, hJs⟩
end Go.Proofs.YtnlijlabkoefbaaGreatDoor
