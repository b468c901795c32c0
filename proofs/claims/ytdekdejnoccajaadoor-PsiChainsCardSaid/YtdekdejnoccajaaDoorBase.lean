/-
  WORDS FOR ALL WALKS OF THIS SEAT: a row of cells that is read; what is kept below a block.
-/
import Derived.Test.YtdekdejnoccajaaDoorProg
import Derived.WalkKit
import Derived.WalkLawsBesides
import Derived.WalkSpells
import Derived.Outline
import Derived.Lib.Hide
import Derived.KernelRfl
import Derived.RowKit
import Derived.Laws.Rows
import Derived.Deep.LoopGhost
import Derived.Deep.QuietTactic
import Derived.BigQuiet
set_option linter.unusedVariables false
set_option linter.unusedSimpArgs false
namespace Go.Proofs.YtdekdejnoccajaaDoor
open Go.RowKit

/-- Cells that are read: from an address on they are these. -/
def RowAt (w : World) (A : Option Addr) (cs : List Value) : Prop :=
  cs = [] ∨ ∃ b off, A = some ⟨b, off, none⟩ ∧ ∀ j (h : j < cs.length), w.cell? ⟨b, off + j, none⟩ = some cs[j]
theorem RowAt.below {w w1 : World} {A : Option Addr} {cs : List Value} (h : RowAt w A cs) (hb : Below w.heap.size w w1) : RowAt w1 A cs := by
  rcases h with h | ⟨b, off, e, h⟩
  · exact .inl h
  · exact .inr ⟨b, off, e, fun j hj => (hb.cell (World.block_lt_of_cell? w _ (h j hj))).trans (h j hj)⟩
theorem RowAt.at {w : World} {A : Option Addr} {cs : List Value} (h : RowAt w A cs) (h0 : 0 < cs.length) : ∃ b off, A = some ⟨b, off, none⟩ ∧ b < w.heap.size ∧ ∀ j (h : j < cs.length), w.cell? ⟨b, off + j, none⟩ = some cs[j] := by
  rcases h with h | ⟨b, off, e, h⟩
  · subst h; simp at h0
  · exact ⟨b, off, e, World.block_lt_of_cell? w _ (h 0 h0), h⟩
theorem below_alloc {w W : World} (h : Below w.heap.size w W) (o : Obj) : Below w.heap.size w (W.alloc o) := h.alloc h.size o
theorem below_drew {B : Nat} {w W : World} (h : Below B w W) : Below B w W.drew := ⟨h.os, h.tape, h.output, h.size, h.block⟩
theorem below_then {B : Nat} {w w1 w2 : World} (h : Below B w w1) (hB : B ≤ w1.heap.size) (k : Below w1.heap.size w1 w2) : Below B w w2 :=
  h.trans ⟨k.os, k.tape, k.output, k.size, fun i hi => k.block i (Nat.lt_of_lt_of_le hi hB)⟩
theorem below_call {w W w1 : World} (h : Below w.heap.size w W) (k : Below W.heap.size W w1) : Below w.heap.size w w1 := below_then h h.size k
theorem below_drewS {w W : World} (h : Below w.heap.size w W) : Below w.heap.size w W.drew := below_drew h
theorem below_drewNS {w W : World} (h : Below w.heap.size w W) (n : Nat) : Below w.heap.size w (W.drewN n) := ⟨h.os, h.tape, h.output, h.size, h.block⟩
theorem bcell {W w1 : World} (hb : Below W.heap.size W w1) : (∀ b o, b < W.heap.size → w1.cell? ⟨b, o, none⟩ = W.cell? ⟨b, o, none⟩) ∧ (∀ b o, b < W.heap.size → w1.frozen? ⟨b, o, none⟩ = W.frozen? ⟨b, o, none⟩) :=
  ⟨fun b o h => hb.cell (p := ⟨b, o, none⟩) h, fun b o h => hb.frozen (p := ⟨b, o, none⟩) h⟩
theorem ret_eq {v v' : Value} (h : v = v') : Ending.returned v = .returned v' := by rw [h]

/-- The cells of pairs of texts (api.Extra, api.Copy). -/
def pairCells (l : List (ByteArray × ByteArray)) : List Value := l.flatMap fun x => [.string x.1, .string x.2]
theorem pairCells_length (l : List (ByteArray × ByteArray)) : (pairCells l).length = 2 * l.length := by
  induction l with
  | nil => rfl
  | cons x r ih => simp only [pairCells, List.flatMap_cons, List.length_append, List.length_cons, List.length_nil] at *; omega
theorem pairCells_at (l : List (ByteArray × ByteArray)) : ∀ k (h : k < l.length), (pairCells l)[k * 2]? = some (.string l[k].1) ∧ (pairCells l)[k * 2 + 1]? = some (.string l[k].2) := by
  induction l with
  | nil => intro k h; simp at h
  | cons x r ih =>
    intro k h
    cases k with
    | zero => exact ⟨rfl, rfl⟩
    | succ k =>
      have := ih k (by simpa using h)
      simpa [pairCells, Nat.add_mul] using this
/-- Element k of such a row, in a later world. -/
theorem RowAt.pair {w wr : World} {b off : Nat} {l : List (ByteArray × ByteArray)} (hb : Below w.heap.size w wr) (hbl : b < w.heap.size)
    (hc : ∀ j (h : j < (pairCells l).length), w.cell? ⟨b, off + j, none⟩ = some (pairCells l)[j]) (k : Nat) (hk : k < l.length) :
    wr.cell? ⟨b, off + k * 2, none⟩ = some (.string l[k].1) ∧ wr.cell? ⟨b, off + k * 2 + 1, none⟩ = some (.string l[k].2) := by
  have hm := pairCells_length l
  have e1 := hc (k * 2) (by omega)
  have e2 := hc (k * 2 + 1) (by omega)
  rw [(List.getElem_eq_iff (by omega)).2 (pairCells_at l k hk).1] at e1
  rw [(List.getElem_eq_iff (by omega)).2 (pairCells_at l k hk).2] at e2
  exact ⟨(hb.cell hbl).trans e1, (hb.cell hbl).trans e2⟩
end Go.Proofs.YtdekdejnoccajaaDoor
