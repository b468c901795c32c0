/-
  WHAT THE WALKS ASK OF THE WORLD: the library's variables hold what they hold when the call begins.
-/
import Derived.Test.YtdekdejnoccajaaDoorBase
import Derived.Lib.LaidTab
import Derived.Lib.ItoaNum
import Derived.WalkSmall
set_option linter.unusedVariables false
set_option linter.unusedSimpArgs false
namespace Go.Proofs.YtdekdejnoccajaaDoor
open Go.RowKit

theorem gPow : Tryd.prog.globalNamed "internal/strconv.uint64pow10" = some 3 := by kernel_rfl
structure Ready (w : World) : Prop where
  maxLen : ∃ m, w.cell? ⟨0, 0, none⟩ = some (.int .i64 m)
  syn : ∃ tp p, w.cell? ⟨1, 0, none⟩ = some (.iface tp p)
  rng : ∃ tp p, w.cell? ⟨2, 0, none⟩ = some (.iface tp p)
  tab : Lib.TabIs Tryd.prog w "internal/strconv.uint64pow10" .u64 Lib.pow10Tab
theorem cell_keep {w w1 : World} {a : Addr} {v : Value} (hb : Below w.heap.size w w1) (h : w.cell? a = some v) : w1.cell? a = some v := (hb.cell (World.block_lt_of_cell? w a h)).trans h
theorem tab_lt {w : World} (h : Lib.TabIs Tryd.prog w "internal/strconv.uint64pow10" .u64 Lib.pow10Tab) : 3 < w.heap.size := by
  unfold Lib.TabIs World.var? at h
  rw [gPow] at h
  rcases Nat.lt_or_ge 3 w.heap.size with h' | h'
  · exact h'
  · rw [Option.bind_some, Array.getElem?_eq_none h'] at h; cases h
theorem Ready.below {w w1 : World} (h : Ready w) (hb : Below w.heap.size w w1) : Ready w1 :=
  ⟨let ⟨m, e⟩ := h.maxLen; ⟨m, cell_keep hb e⟩, let ⟨t, p, e⟩ := h.syn; ⟨t, p, cell_keep hb e⟩, let ⟨t, p, e⟩ := h.rng; ⟨t, p, cell_keep hb e⟩,
    var?_below hb gPow (tab_lt h.tab) h.tab⟩
theorem Ready.alloc {w : World} (h : Ready w) (o : Obj) : Ready (w.alloc o) := h.below ((Below.refl _ _).alloc (Nat.le_refl _) _)
theorem Ready.drew {w : World} (h : Ready w) : Ready w.drew := h.below (below_drewS (Below.refl _ _))
theorem Ready.drewN {w : World} (h : Ready w) (n : Nat) : Ready (w.drewN n) := h.below (below_drewNS (Below.refl _ _) n)
end Go.Proofs.YtdekdejnoccajaaDoor
