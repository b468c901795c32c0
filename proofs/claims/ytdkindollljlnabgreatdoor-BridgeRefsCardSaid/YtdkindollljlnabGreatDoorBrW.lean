/-
  BridgeRefs: the law answers true of every name and every id.
-/
import Derived.Test.YtdkindollljlnabGreatDoorBrR0
import Derived.Test.YtdkindollljlnabGreatDoorBrR1
import Derived.Test.YtdkindollljlnabGreatDoorBrR2
set_option linter.unusedVariables false
set_option linter.unusedSimpArgs false
namespace Go.Proofs.YtdkindollljlnabGreatDoor
open Go Go.RowKit

theorem sound_all [Known] {P : Program} {call : CallF} (w : World) (hc : CallSound P (baseOf w) call) {f : FuncId} {args : List SV} {v : SV} (h : allV v (call f args sh0) = true) {given : Nat → Value} (ho : (env0 given).ones) {vs : List Value} (ha : denL (env0 given) args = some vs)
    {u : Value} (hu : ∀ env, den env v = some u) (hml : MaxLenIs P w) (hk : Known.ok w (fun b => b < w.heap.size) given) : Calls P f vs.toArray w fun e w' => e = .returned u ∧ Below w.heap.size w w' := by
  obtain ⟨l, hl, hall⟩ := allV_ok h
  refine (hc f args sh0 l (env0 given) w vs hl (fun i => ho i) (rel0 given w hml hk) ha).mono ?_
  rintro e w' ⟨o, hmem, env', x, rfl, _, hr, hd⟩
  rw [hall o hmem, hu] at hd; cases hd
  exact ⟨rfl, hr.below.below⟩

/-- The values that nobody looks into: the name, the id's bytes. -/
def givB (nm : ByteArray) (ns : List Nat) : List Value := [.string nm, .bool true, .bool true] ++ (idV ns ++ [])
theorem giv_ones (nm : ByteArray) (ns : List Nat) : (env0 fun i => (givB nm ns).getD i (.bool true)).ones := by
  refine given_ones _ fun v hv => ?_
  unfold givB idV at hv
  simp only [List.append_nil, List.mem_append, List.mem_cons, List.not_mem_nil, or_false, List.mem_map] at hv
  rcases hv with (rfl | rfl | rfl) | ⟨n, _, rfl⟩ <;> rfl
theorem giv_ids (nm : ByteArray) {ns : List Nat} (h : Id20 ns) (env : Env) (he : env.given = fun i => (givB nm ns).getD i (.bool true)) : denL env idS = some (idV ns) := by
  have h1 := opqFrom_den [.string nm, .bool true, .bool true] (idV ns) [] (.bool true) (i := 3) (n := 20) rfl (by unfold idV; rw [List.length_map]; exact h.1)
  unfold opqFrom at h1
  unfold idS opqFrom
  rw [opqMap_den] at h1 ⊢
  rw [he]; exact h1
theorem giv_name (nm : ByteArray) (ns : List Nat) (c r : Nat) (h : decide (c < nm.size) = decide (r = 1)) : den (env0 fun i => (givB nm ns).getD i (.bool true)) (.num 0 [(0, 0), (c, r)] false) = some (.string nm) :=
  text_den [] ([.bool true, .bool true] ++ (idV ns ++ [])) nm (.bool true) rfl c r h
theorem cell_lt {w : World} {a : Addr} {v : Value} (h : w.cell? a = some v) : a.block < w.heap.size := by
  rcases Nat.lt_or_ge a.block w.heap.size with hl | hl
  · exact hl
  · unfold World.cell? at h
    rw [show w.heap[a.block]? = none from Array.getElem?_eq_none hl] at h
    cases h

theorem bridgeRefs_any (nm : ByteArray) (ns : List Nat) (h20 : Id20 ns) (w : World) (hml : MaxLenIs Tryz.prog w) (hT : Lib.Utf8Tabs 0 1 w) :
    Calls Tryz.prog 3 #[.string nm, .agg (idV ns).toArray] w fun e w' => e = .returned (.bool true) ∧ Below w.heap.size w w' := by
  have hids := giv_ids nm h20
  have k3 : (0 : Nat) < w.heap.size := cell_lt (hT.1 0 (by decide))
  have k4 : (1 : Nat) < w.heap.size := cell_lt (hT.2 0 (by decide)).1
  by_cases hlong : 300 < nm.size
  · have ha : denL (env0 fun i => (givB nm ns).getD i (.bool true)) [.num 0 [(0, 0), (300, 1)] false, .agg idS] = some [.string nm, .agg (idV ns).toArray] :=
      denL_mk (giv_name nm ns 300 1 (by rw [decide_eq_true hlong]; rfl)) (denL_mk (by simp only [den, hids (env0 fun i => (givB nm ns).getD i (.bool true)) rfl]) (by simp only [denL]))
    exact exec_all followsM (fun b => onF_ok (fun _ _ _ _ _ _ h _ hr ha => trueOut_ok awake27_any b h hr ha) noSumm_ok) (d := 60) runLong (giv_ones nm ns) ha (fun _ => rfl) w hml
  · have hn : den (env0 fun i => (givB nm ns).getD i (.bool true)) nameS = some (.string nm) := giv_name nm ns 300 0 (by rw [decide_eq_false hlong]; rfl)
    have key : ∀ (oth : Bool) (idA : List SV), (oth = true → ns ≠ blobN ∧ ns ≠ zeroN) → denL (env0 fun i => (givB nm ns).getD i (.bool true)) idA = some (idV ns) → (∀ r br, runB oth idA r br = true) →
        Calls Tryz.prog 3 #[.string nm, .agg (idV ns).toArray] w fun e w' => e = .returned (.bool true) ∧ Below w.heap.size w w' := by
      intro oth idA hne hid hrun
      letI : Known := knownB nm ns oth
      have ha : denL (env0 fun i => (givB nm ns).getD i (.bool true)) [nameS, .agg idA] = some [.string nm, .agg (idV ns).toArray] := denL_mk hn (denL_mk (by simp only [den, hid]) (by simp only [denL]))
      refine sound_all w (execK_ok followsM askB_ok (fun b => summB_ok (ns := ns) (oth := oth) rfl rfl b) 60 (baseOf w)) (hrun (rightV (Lib.validD nm.data.toList) nm.data.toList) (branchV (Lib.validD (heads ++ nm).data.toList) nm)) (giv_ones nm ns) ha (fun _ => rfl) hml ?_
      exact { name := rfl, short := by omega, id20 := fun ho => ⟨h20, hne ho⟩, ids := fun _ env he => hids env he, k3 := k3, k4 := k4, tabs := hT }
    by_cases hz : ns = zeroN
    · subst hz
      refine key false (u8s zeroN) (fun h => by cases h) (u8s_den _ _) fun r br => ?_
      cases r <;> cases br
      · exact run1ff
      · exact run1ft
      · exact run1tf
      · exact run1tt
    · by_cases hb : ns = blobN
      · subst hb
        refine key false (u8s blobN) (fun h => by cases h) (u8s_den _ _) fun r br => ?_
        cases r <;> cases br
        · exact run2ff
        · exact run2ft
        · exact run2tf
        · exact run2tt
      · refine key true idS (fun _ => ⟨hb, hz⟩) (hids _ rfl) fun r br => ?_
        cases r <;> cases br
        · exact run0ff
        · exact run0ft
        · exact run0tf
        · exact run0tt
end Go.Proofs.YtdkindollljlnabGreatDoor
