/-
  Values that nobody looks into, as arguments of the executor.
-/
import Derived.Test.YthenjjonphoklabGreatDoorExec
set_option linter.unusedVariables false
set_option linter.unusedSimpArgs false
namespace Go.Proofs.YthenjjonphoklabGreatDoor
open Go Go.RowKit

/-- n values from the i-th on. -/
def opqFrom (i n : Nat) : List SV := (List.range' i n).map SV.opq
theorem opqMap_den (env : Env) : ∀ ks : List Nat, denL env (ks.map SV.opq) = some (ks.map env.given) := by
  intro ks
  induction ks with
  | nil => rfl
  | cons k r ih => exact denL_mk (by simp only [den]) ih
theorem opqFrom_den (A B C : List Value) (d : Value) {i n : Nat} (hi : A.length = i) (hn : B.length = n) : denL (env0 fun i => (A ++ (B ++ C)).getD i d) (opqFrom i n) = some B := by
  unfold opqFrom
  rw [opqMap_den]
  congr 1
  subst hn; subst hi
  apply List.ext_getElem
  · simp
  · intro i h1 h2
    simp only [List.getElem_map, List.getElem_range', env0, Nat.one_mul]
    rw [List.getD_eq_getElem?_getD, List.getElem?_append_right (by omega), show A.length + i - A.length = i by omega, List.getElem?_append_left h2, List.getElem?_eq_getElem h2]
    rfl
theorem given_ones (l : List Value) (h : ∀ v ∈ l, v.oneCell' = true) : (env0 fun i => l.getD i (.bool true)).ones := fun i => by
  show (l.getD i (.bool true)).oneCell' = true
  rw [List.getD_eq_getElem?_getD]
  cases hg : l[i]? with
  | none => rfl
  | some v => exact h v (List.mem_of_getElem? hg)
/-- A text of which is known whether it is longer than c. -/
theorem text_den (A C : List Value) (s : ByteArray) (d : Value) {i : Nat} (hi : A.length = i) (c r : Nat) (h : decide (c < s.size) = decide (r = 1)) : den (env0 fun i => (A ++ (Value.string s :: C)).getD i d) (.num i [(0, 0), (c, r)] false) = some (.string s) := by
  subst hi
  simp only [den, env0]
  rw [List.getD_eq_getElem?_getD, List.getElem?_append_right (Nat.le_refl _), Nat.sub_self]
  simp only [List.getElem?_cons_zero, Option.getD_some, numOf', lensOk, h, BEq.rfl, Bool.and_self, if_true, Bool.false_eq_true, if_false]
end Go.Proofs.YthenjjonphoklabGreatDoor
