/-
  RepoNil: the walk.
-/
import Derived.Test.YthenjjonphoklabGreatDoorRepoSumm
import Derived.Test.YthenjjonphoklabGreatDoorOpqs
set_option linter.unusedVariables false
set_option linter.unusedSimpArgs false
namespace Go.Proofs.YthenjjonphoklabGreatDoor
open Go Go.RowKit

noncomputable def argsRN (r q : Nat) : List SV := [.agg (opqFrom 0 66 ++ [.num 66 [(0, 0), (1000, r)] false]), .agg (opqFrom 67 20), .num 87 [(0, 0), (300, q)] false]
theorem rn00 : allV (.bool true) (exec Tryz.prog summR2 60 3 (argsRN 0 0) sh0) = true := by kernel_rfl
theorem rn01 : allV (.bool true) (exec Tryz.prog summR2 60 3 (argsRN 0 1) sh0) = true := by kernel_rfl
theorem rn10 : allV (.bool true) (exec Tryz.prog summR2 60 3 (argsRN 1 0) sh0) = true := by kernel_rfl
theorem rn11 : allV (.bool true) (exec Tryz.prog summR2 60 3 (argsRN 1 1) sh0) = true := by kernel_rfl

theorem repoNil_any (l id : List Value) (t s : ByteArray) (hl : l.length = 66) (hid : id.length = 20) (ol : ∀ v ∈ l, v.oneCell' = true) (oid : ∀ v ∈ id, v.oneCell' = true) (w : World) (hml : MaxLenIs Tryz.prog w) :
    Calls Tryz.prog 3 #[.agg (l ++ [Value.string t]).toArray, .agg id.toArray, .string s] w fun e w' => e = .returned (.bool true) ∧ Below w.heap.size w w' := by
  have key : ∀ r q : Nat, decide (1000 < t.size) = decide (r = 1) → decide (300 < s.size) = decide (q = 1) → allV (.bool true) (exec Tryz.prog summR2 60 3 (argsRN r q) sh0) = true →
      Calls Tryz.prog 3 #[.agg (l ++ [Value.string t]).toArray, .agg id.toArray, .string s] w fun e w' => e = .returned (.bool true) ∧ Below w.heap.size w w' := fun r q hr hq h =>
    exec_all followsM summR2_ok (d := 60) (f := 3) (v := .bool true) h (given := fun i => (l ++ (Value.string t :: (id ++ [Value.string s]))).getD i (.bool true))
      (given_ones _ fun v hv => by
        rcases List.mem_append.1 hv with hv | hv
        · exact ol v hv
        · rcases List.mem_cons.1 hv with rfl | hv
          · rfl
          · rcases List.mem_append.1 hv with hv | hv
            · exact oid v hv
            · rw [List.mem_singleton.1 hv]; rfl)
      (by
        have e1 : denL (env0 fun i => (l ++ (Value.string t :: (id ++ [Value.string s]))).getD i (.bool true)) (opqFrom 0 66 ++ [.num 66 [(0, 0), (1000, r)] false]) = some (l ++ [Value.string t]) :=
          denL_append (opqFrom_den [] l _ _ rfl hl) (denL_mk (text_den l _ t _ hl 1000 r hr) rfl)
        have e2 : denL (env0 fun i => (l ++ (Value.string t :: (id ++ [Value.string s]))).getD i (.bool true)) (opqFrom 67 20) = some id := by
          have := opqFrom_den (l ++ [Value.string t]) id [Value.string s] (.bool true) (i := 67) (by simp [hl]) hid
          simpa using this
        have e3 : den (env0 fun i => (l ++ (Value.string t :: (id ++ [Value.string s]))).getD i (.bool true)) (.num 87 [(0, 0), (300, q)] false) = some (.string s) := by
          have := text_den (l ++ Value.string t :: id) [] s (.bool true) (i := 87) (by simp [hl, hid]) 300 q hq
          simpa using this
        have a1 : den (env0 fun i => (l ++ (Value.string t :: (id ++ [Value.string s]))).getD i (.bool true)) (.agg (opqFrom 0 66 ++ [.num 66 [(0, 0), (1000, r)] false])) = some (.agg (l ++ [Value.string t]).toArray) := by simp only [den, e1]
        have a2 : den (env0 fun i => (l ++ (Value.string t :: (id ++ [Value.string s]))).getD i (.bool true)) (.agg (opqFrom 67 20)) = some (.agg id.toArray) := by simp only [den, e2]
        exact denL_mk a1 (denL_mk a2 (denL_mk e3 rfl)))
      (fun _ => rfl) w hml
  by_cases h1 : 1000 < t.size <;> by_cases h2 : 300 < s.size
  · exact key 1 1 (by simp [h1]) (by simp [h2]) rn11
  · exact key 1 0 (by simp [h1]) (by simp [h2]) rn10
  · exact key 0 1 (by simp [h1]) (by simp [h2]) rn01
  · exact key 0 0 (by simp [h1]) (by simp [h2]) rn00
end Go.Proofs.YthenjjonphoklabGreatDoor
