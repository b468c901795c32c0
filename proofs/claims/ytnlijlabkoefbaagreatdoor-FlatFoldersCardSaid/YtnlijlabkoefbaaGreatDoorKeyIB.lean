/-
  maps.Keys of a map whose keys are ids (twenty bytes) and whose entries are known: its iterator gives each key once, in whatever order.
-/
import Derived.Test.YtnlijlabkoefbaaGreatDoorKeysA
import Derived.Maps.RangeRun
import Derived.RangeFuncGives
import Derived.Deep.WholeRow
import Derived.Laws.IdiomRangeMap
import Derived.Test.YtnlijlabkoefbaaGreatDoorChecked
set_option linter.unusedVariables false
set_option linter.unusedSimpArgs false
namespace Go.Proofs.YtnlijlabkoefbaaGreatDoor
open Go Go.RowKit Go.Shelf

section
variable {F : Fence} {n : Nat} {P : Program} {ops : Array Oper} {Q : Exit → Act → World → Prop} {o : Oper} {rest : List Oper} {a : Act} {w : World}
/-- One operation that is no call and no defer, whose result is known. -/
theorem wpListIn_op_val (hg : o.guard = none) (hnc : ∀ c, o.op ≠ .call c) (hnd : ∀ c, o.op ≠ .defer c) {v : Value} {w' : World} (hrun : (execOp a.eval o).run P w = .ok (.value v) w')
    (hK : wpListIn F n P ops Q rest (a.put o.dst v) w') : wpListIn F n P ops Q (o :: rest) a w := by
  refine wpListIn_plain hg fun K' hK' => ?_
  unfold Oper.wpIn
  refine ⟨fun f hf => ?_, ?_⟩
  · unfold Oper.about at hf
    split at hf
    · rename_i c hc; exact absurd hc (hnc c)
    · cases hf
  rw [Oper.semAt_plain F _ _ hnd, hrun]
  exact hK' _ _ hK
theorem wpListIn_op_skip (hg : o.guard = none) (hnc : ∀ c, o.op ≠ .call c) (hnd : ∀ c, o.op ≠ .defer c) {w' : World} (hrun : (execOp a.eval o).run P w = .ok .skip w')
    (hK : wpListIn F n P ops Q rest (a.put o.dst undef) w') : wpListIn F n P ops Q (o :: rest) a w := by
  refine wpListIn_plain hg fun K' hK' => ?_
  unfold Oper.wpIn
  refine ⟨fun f hf => ?_, ?_⟩
  · unfold Oper.about at hf
    split at hf
    · rename_i c hc; exact absurd hc (hnc c)
    · cases hf
  rw [Oper.semAt_plain F _ _ hnd, hrun]
  exact hK' _ _ hK
end

/-- A fresh row that is stored over whole. -/
theorem exec_alloc_row {P : Program} {w : World} {T : TypeId} {z : Array Value} (hz : (zeroValue T).run P w = .ok (.agg z) w) (d : Option Tmp) (ty : TypeId) (pos : String) (af : Array Edge) (ρ : Operand → Value) :
    (execOp ρ ⟨d, .alloc T, ty, pos, af, none⟩).run P w = .ok (.value (.pointer (some ⟨w.heap.size, 0, none⟩))) (w.alloc (.cells z T)) := by
  simp [execOp, Instr.alloc, hz, newVar, newRow, Value.cells]
theorem exec_store_row {P : Program} {w : World} {T : TypeId} {z c : Array Value} {p x : Operand} {ρ : Operand → Value} (hi : (P.info? T).map (·.size) = some c.size) (hs : z.size = c.size) (h1 : c.all (·.oneCell') = true)
    (hp : ρ p = .pointer (some ⟨w.heap.size, 0, none⟩)) (hx : ρ x = .agg c) (d : Option Tmp) (ty : TypeId) (pos : String) (af : Array Edge) :
    (execOp ρ ⟨d, .store T p x, ty, pos, af, none⟩).run P (w.alloc (.cells z T)) = .ok .skip (w.alloc (.cells c T)) := by
  simp [execOp, hp, hx, run_storeAt_new (P := P) w T z c hi hs h1]
theorem exec_load_row {P : Program} {w : World} {T e : TypeId} {n : Nat} {c : Array Value} {p : Operand} {ρ : Operand → Value} (hi : (P.info? T).map (·.size) = some c.size) (hu : P.underlying T = some (.array n e))
    (hp : ρ p = .pointer (some ⟨w.heap.size, 0, none⟩)) (d : Option Tmp) (ty : TypeId) (pos : String) (af : Array Edge) :
    (execOp ρ ⟨d, .load T p, ty, pos, af, none⟩).run P (w.alloc (.cells c T)) = .ok (.value (.agg c)) (w.alloc (.cells c T)) := by
  simp [execOp, hp, run_loadAt_new (P := P) w T c n e hu hi]

theorem infoId : (Tryz.prog.info? 26).map (fun i => (i.zero, i.size, i.bytes)) = some (some (.agg (Array.replicate 20 (.int .u8 0))), 20, 20) := by kernel_rfl
theorem infoIdSize {c : Array Value} (h : c.size = 20) : (Tryz.prog.info? 26).map (·.size) = some c.size := by
  rw [h]; kernel_rfl
theorem zeroId (w : World) : (zeroValue 26).run Tryz.prog w = .ok (.agg (Array.replicate 20 (.int .u8 0))) w :=
  (zero_of_info (P := Tryz.prog) (t := 26) (v := .agg (Array.replicate 20 (.int .u8 0))) (n := 20) (by kernel_rfl)).1 w

theorem fill20 (k0 k1 k2 k3 k4 k5 k6 k7 k8 k9 k10 k11 k12 k13 k14 k15 k16 k17 k18 k19 : Value) : Instr.fill (fun i => some (i * 20, 20)) ((Array.range 20).map fun i => [Value.int .u8 0, Value.int .u8 0, Value.int .u8 0, Value.int .u8 0, Value.int .u8 0, Value.int .u8 0, Value.int .u8 0, Value.int .u8 0, Value.int .u8 0, Value.int .u8 0, Value.int .u8 0, Value.int .u8 0, Value.int .u8 0, Value.int .u8 0, Value.int .u8 0, Value.int .u8 0, Value.int .u8 0, Value.int .u8 0, Value.int .u8 0, Value.int .u8 0][i % 20]?.getD default) [(0, .agg #[k0, k1, k2, k3, k4, k5, k6, k7, k8, k9, k10, k11, k12, k13, k14, k15, k16, k17, k18, k19])] = some #[k0, k1, k2, k3, k4, k5, k6, k7, k8, k9, k10, k11, k12, k13, k14, k15, k16, k17, k18, k19] := by kernel_rfl
theorem fill20' {c : Array Value} (h : c.size = 20) : Instr.fill (fun i => some (i * 20, 20)) ((Array.range 20).map fun i => [Value.int .u8 0, Value.int .u8 0, Value.int .u8 0, Value.int .u8 0, Value.int .u8 0, Value.int .u8 0, Value.int .u8 0, Value.int .u8 0, Value.int .u8 0, Value.int .u8 0, Value.int .u8 0, Value.int .u8 0, Value.int .u8 0, Value.int .u8 0, Value.int .u8 0, Value.int .u8 0, Value.int .u8 0, Value.int .u8 0, Value.int .u8 0, Value.int .u8 0][i % 20]?.getD default) [(0, .agg c)] = some c := by
  obtain ⟨l⟩ := c
  have h : l.length = 20 := h
  match l, h with
  | [k0, k1, k2, k3, k4, k5, k6, k7, k8, k9, k10, k11, k12, k13, k14, k15, k16, k17, k18, k19], _ => exact fill20 k0 k1 k2 k3 k4 k5 k6 k7 k8 k9 k10 k11 k12 k13 k14 k15 k16 k17 k18 k19
theorem exec_buildSlice_id {w : World} {c : Array Value} {x : Operand} {ρ : Operand → Value} (hc : c.size = 20) (hx : ρ x = .agg c) (d : Option Tmp) (ty : TypeId) (pos : String) (af : Array Edge) :
    (execOp ρ ⟨d, .buildSlice 36 1 #[(0, x)], ty, pos, af, none⟩).run Tryz.prog w = .ok (.value (.slice (some ⟨w.heap.size, 0, none⟩) 1 1)) (w.alloc (.cells c 26)) := by
  have hu := Tryz.underlying36
  have hs : (sizeOf 26).run Tryz.prog w = .ok 20 w := by
    have h := infoIdSize hc
    cases hq : Tryz.prog.info? 26 with
    | none => rw [hq] at h; cases h
    | some i => rw [hq] at h; simp [sizeOf, typeInfo, hq]; simpa [hc] using h
  have hz := zeroId w
  have hf := fill20' hc
  simp only [execOp, Instr.buildSlice, underlying, Sem.run_bind]
  simp [hu, hs, hz, newRow, Value.cells, hx]
  split
  · rename_i cells hcells
    obtain rfl : c = cells := Option.some.inj (hf.symm.trans hcells)
    simp [go_sem]
  · rename_i hno
    exact absurd hf (hno _)

variable {H : Type}


/-- An id as a key. -/
structure IdK where
  kc : Array Value
  size : kc.size = 20
  one : kc.all (·.oneCell') = true

/-! ### What is left of a map's entries -/
theorem filter_none (e : MapEntry) : ∀ (l : List MapEntry), e.born ∉ l.map (·.born) → l.filter (fun x => !(x.born == e.born)) = l := by
  intro l h
  rw [List.filter_eq_self]
  intro x hx
  have : x.born ≠ e.born := fun q => h (List.mem_map.2 ⟨x, hx, q⟩)
  simpa using this
theorem perm_filter (e : MapEntry) : ∀ (l : List MapEntry), (l.map (·.born)).Nodup → e ∈ l → l.Perm (e :: l.filter (fun x => !(x.born == e.born))) := by
  intro l
  induction l with
  | nil => intro _ h; cases h
  | cons x r ih =>
    intro hn he
    rw [List.map_cons, List.nodup_cons] at hn
    rcases List.mem_cons.1 he with rfl | he
    · rw [List.filter_cons, if_neg (by simp), filter_none _ _ hn.1]
    · have hne : x.born ≠ e.born := fun q => hn.1 (q ▸ List.mem_map.2 ⟨e, he, rfl⟩)
      rw [List.filter_cons, if_pos (by simpa using hne)]
      exact ((ih hn.2 he).cons x).trans (List.Perm.swap _ _ _)
theorem left_push (es : Array MapEntry) (seen : Array Nat) (b : Nat) : (leftOf es (seen.push b)).toList = (leftOf es seen).toList.filter (fun x => !(x.born == b)) := by
  unfold leftOf
  rw [Array.toList_filter, Array.toList_filter, List.filter_filter]
  congr 1
  funext x
  rw [contains_push, Bool.not_or]
  exact Bool.and_comm _ _
theorem left_nodup {es : Array MapEntry} (hn : (es.toList.map (·.born)).Nodup) (seen : Array Nat) : ((leftOf es seen).toList.map (·.born)).Nodup := by
  unfold leftOf
  rw [Array.toList_filter]
  exact hn.sublist (List.filter_sublist.map _)
theorem left_step {es : Array MapEntry} (hn : (es.toList.map (·.born)).Nodup) {seen : Array Nat} {e : MapEntry} (he : e ∈ (leftOf es seen).toList) {xs : List MapEntry} (h : (xs ++ (leftOf es seen).toList).Perm es.toList) :
    ((xs ++ [e]) ++ (leftOf es (seen.push e.born)).toList).Perm es.toList := by
  rw [left_push, List.append_assoc]
  exact ((perm_filter e _ (left_nodup hn seen) he).symm.append_left xs).trans h
theorem left_none (es : Array MapEntry) : (leftOf es #[]).toList = es.toList := by
  unfold leftOf
  rw [Array.toList_filter, List.filter_eq_self]
  intro x _; simp
theorem born_nodup {es : Array MapEntry} (h : ∀ (i : Nat) (x : MapEntry), es[i]? = some x → x.born = i) : (es.toList.map (·.born)).Nodup := by
  have : es.toList.map (·.born) = List.range es.size := by
    apply List.ext_getElem?
    intro i
    rw [List.getElem?_map, Array.getElem?_toList]
    cases hi : es[i]? with
    | none =>
      have := Array.getElem?_eq_none_iff.1 hi
      rw [List.getElem?_eq_none (by simpa using this)]; rfl
    | some x =>
      have hlt := (Array.getElem?_eq_some_iff.1 hi).1
      rw [List.getElem?_range hlt, Option.map_some, h i x hi]
  rw [this]
  exact List.nodup_range
theorem born_lt {es : Array MapEntry} (h : ∀ (i : Nat) (x : MapEntry), es[i]? = some x → x.born = i) : ∀ x ∈ es.toList, x.born < es.size := by
  intro x hx
  obtain ⟨i, hi, rfl⟩ := List.getElem_of_mem hx
  have hlt : i < es.size := by simpa using hi
  rw [Array.getElem_toList, h i _ (Array.getElem?_eq_getElem hlt)]
  exact hlt

/-- What a step does to the world. -/
theorem next_known {P : Program} {w : World} (ty : TypeId) {r b : Nat} {seen : Array Nat} {es : Array MapEntry} (hr : w.heap[r]? = some (.mapIter (some b) es.size seen es.size)) (hb : w.heap[b]? = some (.map es es.size)) (hborn : ∀ (i : Nat) (x : MapEntry), es[i]? = some x → x.born = i) (hne : b ≠ r) :
    ((leftOf es seen).size = 0 ∧ (Instr.next (.pointer (some ⟨r, 0, none⟩)) false ty).run P w = .ok (.tuple #[.bool false]) w) ∨
    ∃ e ∈ (leftOf es seen).toList, ∃ w2 : World, (Instr.next (.pointer (some ⟨r, 0, none⟩)) false ty).run P w = .ok (.tuple #[.bool true, e.key, e.val]) w2 ∧ w.grownBy w2 (some r) ∧ w2.heap.size = w.heap.size ∧ w2.heap[r]? = some (.mapIter (some b) es.size (seen.push e.born) es.size) ∧ w2.heap[b]? = some (.map es es.size) := by
  have hrl := (Array.getElem?_eq_some_iff.1 hr).1
  rcases run_next_at (P := P) w ty r b es.size es.size seen es es.size hr hb (born_lt hborn) (Nat.le_refl _) with ⟨h0, h1⟩ | ⟨e, he, w1, hw1, hrun⟩
  · exact .inl ⟨h0, h1⟩
  · refine .inr ⟨e, he, _, hrun, ?_⟩
    have hh : w1.heap = w.heap := by rcases hw1 with rfl | rfl <;> rfl
    have ho : w1.os = w.os ∧ w1.tape = w.tape ∧ w1.output = w.output := by rcases hw1 with rfl | rfl <;> exact ⟨rfl, rfl, rfl⟩
    refine ⟨⟨ho.1, ho.2.1, ho.2.2, by simp [ChangeMaps.setBlock, hh], fun k hk hkr => ?_⟩, by simp [ChangeMaps.setBlock, hh], by simp [ChangeMaps.setBlock, hh, hrl], ?_⟩
    · simp only [ChangeMaps.setBlock, hh]
      exact Array.getElem?_setIfInBounds_ne (fun q => hkr (by rw [q]))
    · simp only [ChangeMaps.setBlock, hh]
      rw [Array.getElem?_setIfInBounds_ne (fun q => hne q.symm)]
      exact hb

set_option maxRecDepth 100000 in
set_option maxHeartbeats 2000000 in
/-- maps.Keys of a map whose entries are known: its iterator gives each once. -/
theorem keysI_gives (F : Fence) (n : Nat) (h10 : F.fn 61) (hro : F.round = none) (hn : 1 ≤ n) (Bm b : Nat) (es : Array MapEntry) (hkey : ∀ e ∈ es.toList, ∃ kc : Array Value, e.key = .agg kc ∧ kc.size = 20 ∧ kc.all (·.oneCell') = true) (hborn : ∀ (i : Nat) (x : MapEntry), es[i]? = some x → x.born = i) (w : World) (hBm : Bm < w.heap.size)
    (hm : w.cell? ⟨Bm, 0, none⟩ = some (.map (some b))) (hown : w.heap[b]? = some (.map es es.size)) :
    SeqGives (α := IdK) F n Tryz.prog 61 #[.pointer (some ⟨Bm, 0, none⟩)] (fun k => .agg k.kc) (fun xs => (xs.map fun k => Value.agg k.kc).Perm (es.toList.map (·.key))) es.size w := by
  intro l J W hW hJ hY h0
  have hm' : W.cell? ⟨Bm, 0, none⟩ = some (.map (some b)) := (hW.cell (p := ⟨Bm, 0, none⟩) hBm).trans hm
  have hown' : W.heap[b]? = some (.map es es.size) := (hW.block b (Array.getElem?_eq_some_iff.1 hown).1).trans hown
  have hblt : b < W.heap.size := (Array.getElem?_eq_some_iff.1 hown').1
  have hnd := born_nodup hborn
  refine callsIn_of_wp Tryz.func61 rfl h10 ?_ hro
  simp only [Tryz.ntmps61, List.size_toArray, List.length_cons, List.length_nil, Nat.reduceAdd, Nat.reduceSub, Array.replicate_succ, Array.replicate_zero, List.push_toArray, List.append_toArray, List.nil_append, List.cons_append]
  have hrg := run_range_map (P := Tryz.prog) W 69 26 _ b es es.size Tryz.underlying69 hown'
  gi_wp2_with (first
    | (gi_at_range; refine wpListIn_op_val rfl (fun c h => by cases h) (fun c h => by cases h) (v := .pointer (some ⟨W.heap.size, 0, none⟩)) (w' := W.alloc (.mapIter (some b) es.size #[] es.size)) (by simp [execOp, go_sem, hrg]) ?_)
    | gi_in)
  gi_loopw [3] (fun _ wr => ∃ (seen : Array Nat) (ys : List MapEntry) (xs : List IdK), wr.heap[W.heap.size]? = some (.mapIter (some b) es.size seen es.size) ∧ wr.heap[b]? = some (.map es es.size) ∧ (ys ++ (leftOf es seen).toList).Perm es.toList ∧ (xs.map fun k => Value.agg k.kc) = ys.map (·.key) ∧ J xs wr)
    (fun _ wr => (leftOf es (wr.iterSeen W.heap.size)).size)
  case atStart =>
    refine ⟨#[], [], [], World.alloc_heap_new W _, ?_, ?_, rfl, ?_⟩
    · exact (Below.heap_alloc W _ b hblt).trans hown'
    · rw [left_none]; exact List.Perm.refl _
    · exact hJ [] W _ none h0 (World.grownBy_alloc W _ none) (fun r e => by cases e)
  case round =>
    obtain ⟨seen, ys, xs, hit, hb, hperm, hxy, hJs⟩ := hrel
    have hseen : wr.iterSeen W.heap.size = seen := by simp [World.iterSeen, hit]
    rcases next_known (P := Tryz.prog) _ hit hb hborn (by omega) with ⟨hl0, hnext⟩ | ⟨e, he, w2, hnext, hg2, hs2, hit2, hb2⟩
    · gi_wp2_with (first
        | (gi_at_next; refine wpListIn_next_run rfl _ rfl rfl hnext ?_)
        | gi_in)
      go_end0
      have : (leftOf es seen).toList = [] := by
        have : (leftOf es seen) = #[] := Array.eq_empty_of_size_eq_zero hl0
        rw [this]
      rw [this, List.append_nil] at hperm
      exact ⟨⟨_, rfl⟩, xs, by rw [hxy]; exact hperm.map _, hJs⟩
    · have heL := (mem_left he).1
      obtain ⟨kc, hek, hk, hk1⟩ := hkey e heL
      have hlen : xs.length < es.size := by
        have hxl := congrArg List.length hxy
        rw [List.length_map, List.length_map] at hxl
        have := hperm.length_eq
        rw [List.length_append] at this
        have : 0 < (leftOf es seen).toList.length := List.length_pos_of_mem he
        have e2 : es.toList.length = es.size := Array.length_toList
        omega
      have hlt : W.heap.size < wr.heap.size := (Array.getElem?_eq_some_iff.1 hit).1
      have hJ2 : J xs w2 := hJ xs wr w2 (some W.heap.size) hJs hg2 (fun r q => by cases q; exact ⟨Nat.le_refl _, _, hit, rfl⟩)
      have hJ3 : J xs (w2.alloc (.cells kc 26)) := hJ xs w2 _ none hJ2 (World.grownBy_alloc _ _ none) (fun r e => by cases e)
      have hit3 : (w2.alloc (.cells kc 26)).heap[W.heap.size]? = some (.mapIter (some b) es.size (seen.push e.born) es.size) := (Below.heap_alloc _ _ _ (Array.getElem?_eq_some_iff.1 hit2).1).trans hit2
      have hb3 : (w2.alloc (.cells kc 26)).heap[b]? = some (.map es es.size) := (Below.heap_alloc _ _ _ (Array.getElem?_eq_some_iff.1 hb2).1).trans hb2
      obtain ⟨fn, tmps, assign, body, hy, hR⟩ := hY xs ⟨kc, hk, hk1⟩ _ hJ3 hlen
      clear hs2
      gi_wp2_with (first
        | (gi_at_next; refine wpListIn_next_run rfl _ rfl rfl hnext ?_)
        | (refine wpListIn_entry_run rfl _ rfl rfl (run_entry_at _ _ _ _ _ _ _ _ hit2 hb2 heL hnd) ?_; rw [hek])
        | (refine wpListIn_op_val rfl (fun c h => by cases h) (fun c h => by cases h) (exec_alloc_row (zeroId _) _ _ _ _ _) ?_)
        | (refine wpListIn_op_skip rfl (fun c h => by cases h) (fun c h => by cases h) (exec_store_row (z := Array.replicate 20 (.int .u8 0)) (c := kc) (infoIdSize hk) (by rw [hk, Array.size_replicate]) hk1 rfl rfl _ _ _ _) ?_)
        | (refine wpListIn_op_val rfl (fun c h => by cases h) (fun c h => by cases h) (exec_load_row (infoIdSize hk) Tryz.underlying26 rfl _ _ _ _) ?_)
        | gi_in)
      refine hR.mono ?_
      rintro e3 W3 ⟨rfl, hJ4, hk4⟩
      have hit4 := hk4.same _ _ hit3 rfl
      have hb4 := hk4.same _ _ hb3 rfl
      gi_wp2
      go_roundw
      case rel => exact ⟨_, _, _, hit4, hb4, left_step hnd he hperm, by rw [List.map_append, List.map_append, hxy]; simp [hek], hJ4⟩
      case measure => simp only [World.iterSeen, hit, hit4]; exact left_shrinks es seen e he
end Go.Proofs.YtnlijlabkoefbaaGreatDoor
