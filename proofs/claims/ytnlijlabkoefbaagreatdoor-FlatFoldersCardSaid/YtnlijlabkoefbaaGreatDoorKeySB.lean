/-
  maps.Keys of a map whose keys are strings and whose entries are known: its iterator gives each key once, in whatever order.
-/
import Derived.Test.YtnlijlabkoefbaaGreatDoorKeyIB
import Derived.Maps.RangeRun
import Derived.RangeFuncGives
import Derived.Deep.WholeRow
import Derived.Laws.IdiomRangeMap
import Derived.Test.YtnlijlabkoefbaaGreatDoorChecked
set_option linter.unusedVariables false
set_option linter.unusedSimpArgs false
namespace Go.Proofs.YtnlijlabkoefbaaGreatDoor
open Go Go.RowKit Go.Shelf

set_option maxRecDepth 100000 in
set_option maxHeartbeats 2000000 in
/-- maps.Keys of a map whose entries are known: its iterator gives each once. -/
theorem keysF_gives (F : Fence) (n : Nat) (h10 : F.fn 151) (hro : F.round = none) (hn : 1 ≤ n) (Bm b : Nat) (es : Array MapEntry) (hkey : ∀ e ∈ es.toList, ∃ s : ByteArray, e.key = .string s) (hborn : ∀ (i : Nat) (x : MapEntry), es[i]? = some x → x.born = i) (w : World) (hBm : Bm < w.heap.size)
    (hm : w.cell? ⟨Bm, 0, none⟩ = some (.map (some b))) (hown : w.heap[b]? = some (.map es es.size)) :
    SeqGives (α := ByteArray) F n Tryz.prog 151 #[.pointer (some ⟨Bm, 0, none⟩)] (fun s => .string s) (fun xs => (xs.map fun s => Value.string s).Perm (es.toList.map (·.key))) es.size w := by
  intro l J W hW hJ hY h0
  have hm' : W.cell? ⟨Bm, 0, none⟩ = some (.map (some b)) := (hW.cell (p := ⟨Bm, 0, none⟩) hBm).trans hm
  have hown' : W.heap[b]? = some (.map es es.size) := (hW.block b (Array.getElem?_eq_some_iff.1 hown).1).trans hown
  have hblt : b < W.heap.size := (Array.getElem?_eq_some_iff.1 hown').1
  have hnd := born_nodup hborn
  refine callsIn_of_wp Tryz.func151 rfl h10 ?_ hro
  simp only [Tryz.ntmps151, List.size_toArray, List.length_cons, List.length_nil, Nat.reduceAdd, Nat.reduceSub, Array.replicate_succ, Array.replicate_zero, List.push_toArray, List.append_toArray, List.nil_append, List.cons_append]
  have hrg := run_range_map (P := Tryz.prog) W 163 9 _ b es es.size Tryz.underlying163 hown'
  gi_wp2_with (first
    | (gi_at_range; refine wpListIn_op_val rfl (fun c h => by cases h) (fun c h => by cases h) (v := .pointer (some ⟨W.heap.size, 0, none⟩)) (w' := W.alloc (.mapIter (some b) es.size #[] es.size)) (by simp [execOp, go_sem, hrg]) ?_)
    | gi_in)
  gi_loopw [3] (fun _ wr => ∃ (seen : Array Nat) (ys : List MapEntry) (xs : List ByteArray), wr.heap[W.heap.size]? = some (.mapIter (some b) es.size seen es.size) ∧ wr.heap[b]? = some (.map es es.size) ∧ (ys ++ (leftOf es seen).toList).Perm es.toList ∧ (xs.map fun s => Value.string s) = ys.map (·.key) ∧ J xs wr)
    (fun _ wr => (leftOf es (wr.iterSeen W.heap.size)).size)
  case atStart =>
    refine ⟨#[], [], [], World.alloc_heap_new W _, ?_, ?_, rfl, ?_⟩
    · exact (Below.heap_alloc W _ b hblt).trans hown'
    · rw [left_none]; exact List.Perm.refl _
    · exact hJ [] W _ none h0 (World.grownBy_alloc W _ none) (fun r e => by cases e)
  case round =>
    obtain ⟨seen, ys, xs, hit, hb, hperm, hxy, hJs⟩ := hrel
    have hseen : wr.iterSeen W.heap.size = seen := by simp [World.iterSeen, hit]
    rcases next_known (P := Tryz.prog) _ hit hb hborn (by omega) with ⟨hl0, hnext⟩ | ⟨e, he, w2, hnext, hg2, hs2, hit2, hb2⟩
    · gi_wp2_with (first
        | (gi_at_next; refine wpListIn_next_run rfl _ rfl rfl hnext ?_)
        | gi_in)
      go_end0
      have : (leftOf es seen).toList = [] := by
        have : (leftOf es seen) = #[] := Array.eq_empty_of_size_eq_zero hl0
        rw [this]
      rw [this, List.append_nil] at hperm
      exact ⟨⟨_, rfl⟩, xs, by rw [hxy]; exact hperm.map _, hJs⟩
    · have heL := (mem_left he).1
      obtain ⟨kc, hek⟩ := hkey e heL
      have hlen : xs.length < es.size := by
        have hxl := congrArg List.length hxy
        rw [List.length_map, List.length_map] at hxl
        have := hperm.length_eq
        rw [List.length_append] at this
        have : 0 < (leftOf es seen).toList.length := List.length_pos_of_mem he
        have e2 : es.toList.length = es.size := Array.length_toList
        omega
      have hlt : W.heap.size < wr.heap.size := (Array.getElem?_eq_some_iff.1 hit).1
      have hJ2 : J xs w2 := hJ xs wr w2 (some W.heap.size) hJs hg2 (fun r q => by cases q; exact ⟨Nat.le_refl _, _, hit, rfl⟩)
      obtain ⟨fn, tmps, assign, body, hy, hR⟩ := hY xs kc _ hJ2 hlen
      clear hs2
      gi_wp2_with (first
        | (gi_at_next; refine wpListIn_next_run rfl _ rfl rfl hnext ?_)
        | (refine wpListIn_entry_run rfl _ rfl rfl (run_entry_at _ _ _ _ _ _ _ _ hit2 hb2 heL hnd) ?_; rw [hek])
        | gi_in)
      refine hR.mono ?_
      rintro e3 W3 ⟨rfl, hJ4, hk4⟩
      have hit4 := hk4.same _ _ hit2 rfl
      have hb4 := hk4.same _ _ hb2 rfl
      gi_wp2
      go_roundw
      case rel => exact ⟨_, _, _, hit4, hb4, left_step hnd he hperm, by rw [List.map_append, List.map_append, hxy]; simp [hek], hJ4⟩
      case measure => simp only [World.iterSeen, hit, hit4]; exact left_shrinks es seen e he
end Go.Proofs.YtnlijlabkoefbaaGreatDoor
