/-
  What every row of this kind asks: a composed value's cells; a start for the witness at a world that lays the listed variables by a function.
-/
import Derived.WalkKit
import Derived.ProofKit
import Derived.OpenShut
import Derived.LaidMore
import Derived.HandedShaped
import Derived.Stop.LaidErr
import Derived.Deep.DeepHandedRow
import Derived.Deep.DeepWitnessRowRef
import Derived.Lib.LaidTab
import Derived.ChangeMaps5
import Derived.Carry
import Derived.Lay
import Derived.Lib.SmallJoins
set_option linter.unusedVariables false
set_option linter.unusedSimpArgs false
namespace Go.Proofs.YtjnjcielihgagaaGreatDoor
open Go.ChangeShapes Go.WideShapes Go.ChangeAt Go.RowKit Go.ChangeMaps

theorem okWide_one {P : Program} {w : World} {r : Reach} {b : Nat} {t : TypeId} {v : Value} (h : Cell.okWide P w r b t v) : v.oneCell' = true := by
  cases v <;> first | rfl | (exfalso; unfold Cell.okWide at h; split at h <;> first | (rename_i h1 h2; cases h2; done) | (unfold Cell.ok at h; revert h; split <;> simp_all))
def composed (P : Program) (t : TypeId) : Bool := match P.underlying t with
  | some (.struct _) | some (.array _ _) => true
  | _ => false
/-- A composed value's cells, one by one. -/
theorem agg_row {P : Program} {w : World} {r : Reach} {b : Nat} {t : TypeId} {n : Nat} {v : Value} (hc : (composed P t && Nat.beq (P.cellsOf t) n) = true) (h : Value.okWide P w r b t v) :
    ∃ l : List Value, v = .agg l.toArray ∧ l.length = n ∧ ∀ u ∈ l, u.oneCell' = true := by
  rw [Bool.and_eq_true] at hc
  obtain ⟨hc, hn⟩ := hc
  have hn := Nat.eq_of_beq_eq_true hn
  unfold composed at hc
  unfold Value.okWide at h
  have key : (∃ cs, v = .agg cs ∧ cs.size = P.cellsOf t ∧ Row.okWide P w r b t cs) → ∃ l : List Value, v = .agg l.toArray ∧ l.length = n ∧ ∀ u ∈ l, u.oneCell' = true := by
    rintro ⟨cs, rfl, hs, ts, _, _, hcell⟩
    refine ⟨cs.toList, by simp, by simpa [hn] using hs, fun u hu => ?_⟩
    obtain ⟨i, hi⟩ := List.getElem?_of_mem hu
    obtain ⟨_, _, hk⟩ := hcell i u (by simpa using hi)
    exact okWide_one hk
  cases hu : P.underlying t with
  | none => rw [hu] at hc; cases hc
  | some d => rw [hu] at hc h; cases d <;> first | exact key h | cases hc
/-- Is the last cell of so many and one a text? -/
def lastText (P : Program) (t : TypeId) (n : Nat) : Bool := match P.cellTypes P.depth t with
  | some ts => Nat.beq ts.length (n + 1) && (match ts[n]? with
    | some u => (match P.underlying u with
      | some .string => true
      | _ => false)
    | none => false)
  | none => false
theorem agg_text {P : Program} {w : World} {r : Reach} {b : Nat} {t : TypeId} {n : Nat} {v : Value} (hc : (composed P t && Nat.beq (P.cellsOf t) (n + 1)) = true) (hs : lastText P t n = true) (h : Value.okWide P w r b t v) :
    ∃ (l : List Value) (s : ByteArray), v = .agg (l ++ [Value.string s]).toArray ∧ l.length = n ∧ ∀ u ∈ l, u.oneCell' = true := by
  obtain ⟨m, rfl, hl, h1⟩ := agg_row hc h
  rw [Bool.and_eq_true] at hc
  have hcomp := hc.1
  unfold composed at hcomp
  unfold Value.okWide at h
  have key : Row.okWide P w r b t m.toArray → ∃ s, m[n]? = some (Value.string s) := by
    rintro ⟨ts, hts, _, hcell⟩
    unfold lastText at hs
    rw [hts] at hs
    simp only [Bool.and_eq_true] at hs
    obtain ⟨hlen, hu⟩ := hs
    have hlen := Nat.eq_of_beq_eq_true hlen
    have hn : n < m.length := by omega
    obtain ⟨u, hu1, hu2⟩ := hcell n m[n] (by simp [hn])
    rw [hlen, Nat.mod_eq_of_lt (Nat.lt_succ_self n)] at hu1
    rw [hu1] at hu
    simp only at hu
    unfold Cell.okWide at hu2
    rw [List.getElem?_eq_getElem hn]
    generalize m[n] = x at *
    cases hd : P.underlying u with
    | none => rw [hd] at hu; cases hu
    | some d =>
      rw [hd] at hu hu2
      cases d <;> first | (cases hu; done) | skip
      cases x <;> first | (exact ⟨_, rfl⟩) | (exfalso; simp only at hu2; unfold Cell.ok at hu2; rw [hd] at hu2; exact hu2)
  have hk : ∃ s, m[n]? = some (Value.string s) := by
    cases hu : P.underlying t with
    | none => rw [hu] at hcomp; cases hcomp
    | some d => rw [hu] at hcomp h; cases d <;> first | (cases hcomp; done) | (obtain ⟨cs, e, _, hr⟩ := h; cases e; exact key hr)
  obtain ⟨s, hms⟩ := hk
  refine ⟨m.take n, s, ?_, by simp; omega, fun u hu => h1 u (List.mem_of_mem_take hu)⟩
  have : m = m.take n ++ [Value.string s] := by
    have e := List.take_append_drop n m
    have d : m.drop n = [Value.string s] := by
      apply List.ext_getElem?
      intro i
      rw [List.getElem?_drop]
      cases i with
      | zero => simpa using hms
      | succ i => rw [List.getElem?_eq_none (by omega)]; simp
    rw [← d]; exact e.symm
  rw [← this]
theorem agg_two {P : Program} {w : World} {r : Reach} {b : Nat} {t : TypeId} {v : Value} (hc : (composed P t && Nat.beq (P.cellsOf t) 2) = true) (h : Value.okWide P w r b t v) :
    ∃ x y, v = .agg #[x, y] ∧ x.oneCell' = true ∧ y.oneCell' = true := by
  obtain ⟨l, rfl, hl, h1⟩ := agg_row hc h
  match l, hl with
  | [x, y], _ => exact ⟨x, y, rfl, h1 x (by simp), h1 y (by simp)⟩

theorem witness_shaped {H : Type} {enc : TypeId × Value → H} {C : Checked} {os : Os} {f : FuncId} {fn : Func} {s : OpenSpec} {conds : List PathCond} {apart : Bool} {laid : List (String × DataW Unit)} (modest : Bool) (w0 : World) (args : Array Value) (hos : w0.os = os)
    (hsh : (w0.forCall (fun _ _ => 0) ⟨#[], args, []⟩).Shaped C.prog) (hok : Input.okWideB C.prog (w0.forCall (fun _ _ => 0) ⟨#[], args, []⟩) f ⟨#[], args, []⟩ = true)
    (hrow : s.preRow enc C.prog fn conds apart laid (w0.forCall (fun _ _ => 0) ⟨#[], args, []⟩).memory args) :
    ∃ (w : World) (tape : Tape) (i : Input), w.os = os ∧ (w.forCall tape i).Shaped C.prog ∧ i.vars = [] ∧ Input.okWide C.prog (w.forCall tape i) .any w.heap.size f i ∧
      s.preRow enc C.prog fn conds apart laid (w.forCall tape i).memory i.args ∧ ({ modest := modest } : Assume).holds C.prog (lone (Frame.enter C.prog f i.args .normal) [] (w.forCall tape i)) :=
  ⟨w0, fun _ _ => 0, ⟨#[], args, []⟩, hos, hsh, (Input.okWide_of_okWideB (base := 0) hok).1, (Input.okWide_of_okWideB hok).2, hrow, by
    simp only [Assume.holds]
    exact ⟨by simp, by simp, fun _ => Modest.zero, by simp, by simp⟩⟩
end Go.Proofs.YtjnjcielihgagaaGreatDoor
