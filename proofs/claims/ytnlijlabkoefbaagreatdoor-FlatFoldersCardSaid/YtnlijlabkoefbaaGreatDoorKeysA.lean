/-
  Steps over a map of one entry.
-/
import Derived.RangeFuncNested
import Derived.RangeFuncBound
import Derived.RangeFuncCalls
import Derived.RangeFuncLeaves
import Derived.RangeFuncFrom
import Derived.Shelf.Abstract
import Derived.WalkKit
import Derived.OwnWalkIn
import Derived.TacticsInMore
import Derived.LoopNIn
import Derived.LoopIn
import Derived.RangeFuncOne
import Derived.Sort.MapsRangeIn
import Derived.Maps.AppendAt
set_option linter.unusedVariables false
set_option linter.unusedSimpArgs false
namespace Go.Proofs.YtnlijlabkoefbaaGreatDoor
open Go Go.RowKit Go.Shelf

attribute [local go_sem] Oper.semAt_some

section
variable {F : Fence} {n : Nat} {P : Program} {ops : Array Oper} {Q : Exit → Act → World → Prop} {o : Oper} {rest : List Oper} {a : Act} {w : World}
theorem wpListIn_next_run (hg : o.guard = none) (it : Operand) (hop : o.op = Op.next it false) {x v : Value} {w' : World} (hit : a.eval it = x) (hrun : (Instr.next x false o.type).run P w = .ok v w')
    (hK : wpListIn F n P ops Q rest (a.put o.dst v) w') : wpListIn F n P ops Q (o :: rest) a w := by
  refine wpListIn_plain hg fun K' hK' => ?_
  unfold Oper.wpIn
  refine ⟨by simp [Oper.about, hop], ?_⟩
  rw [Oper.semAt_plain F _ _ (by rw [hop]; intro c hc'; cases hc')]
  simp [execOp, hop, hit, hrun, Result.andThen]
  exact hK' _ _ hK
theorem wpListIn_entry_run (hg : o.guard = none) (it : Operand) (hop : o.op = Op.entry it) {x v : Value} {w' : World} (hit : a.eval it = x) (hrun : (Instr.entry x).run P w = .ok v w')
    (hK : wpListIn F n P ops Q rest (a.put o.dst v) w') : wpListIn F n P ops Q (o :: rest) a w := by
  refine wpListIn_plain hg fun K' hK' => ?_
  unfold Oper.wpIn
  refine ⟨by simp [Oper.about, hop], ?_⟩
  rw [Oper.semAt_plain F _ _ (by rw [hop]; intro c hc'; cases hc')]
  simp [execOp, hop, hit, hrun, Result.andThen]
  exact hK' _ _ hK
end

/-- The first step over a map of one entry. -/
theorem next_first {P : Program} {w : World} {r b : Nat} {e : MapEntry} (hr : w.heap[r]? = some (.mapIter (some b) 1 #[] 1)) (hb : w.heap[b]? = some (.map #[e] 1)) (he : e.born = 0) (T : TypeId) :
    (Instr.next (.pointer (some ⟨r, 0, none⟩)) false T).run P w = .ok (.tuple #[.bool true, e.key, e.val]) (w.putObj r (.mapIter (some b) 1 #[0] 1)) := by
  have h1 : (getObj r).run P w = .ok (.mapIter (some b) 1 #[] 1) w := by simp [getObj, Sem.run, hr]
  have h2 : (getObj b).run P w = .ok (.map #[e] 1) w := by simp [getObj, Sem.run, hb]
  have h3 : (setObj r (.mapIter (some b) 1 #[0] 1)).run P w = .ok () (w.putObj r (.mapIter (some b) 1 #[0] 1)) := by simp [setObj, Sem.run, hr, World.putObj]
  have h4 : (Question.mapNext 1).forced = true := by first | rfl | decide
  simp [Instr.next, h1, h2, he, h3, h4]
/-- The second one. -/
theorem next_second {P : Program} {w : World} {r b : Nat} {e : MapEntry} (hr : w.heap[r]? = some (.mapIter (some b) 1 #[0] 1)) (hb : w.heap[b]? = some (.map #[e] 1)) (he : e.born = 0) (T : TypeId) :
    (Instr.next (.pointer (some ⟨r, 0, none⟩)) false T).run P w = .ok (.tuple #[.bool false]) w := by
  have h1 : (getObj r).run P w = .ok (.mapIter (some b) 1 #[0] 1) w := by simp [getObj, Sem.run, hr]
  have h2 : (getObj b).run P w = .ok (.map #[e] 1) w := by simp [getObj, Sem.run, hb]
  have h4 : (Question.mapNext 1).forced = true := by first | rfl | decide
  simp [Instr.next, h1, h2, he, h4]
theorem entry_first {P : Program} {w : World} {r b : Nat} {e : MapEntry} (hr : w.heap[r]? = some (.mapIter (some b) 1 #[0] 1)) (hb : w.heap[b]? = some (.map #[e] 1)) (he : e.born = 0) :
    (Instr.entry (.pointer (some ⟨r, 0, none⟩))).run P w = .ok (.tuple #[e.key, e.val]) w := by
  have h1 : (getObj r).run P w = .ok (.mapIter (some b) 1 #[0] 1) w := by simp [getObj, Sem.run, hr]
  have h2 : (getObj b).run P w = .ok (.map #[e] 1) w := by simp [getObj, Sem.run, hb]
  simp [Instr.entry, h1, h2, he]
end Go.Proofs.YtnlijlabkoefbaaGreatDoor
