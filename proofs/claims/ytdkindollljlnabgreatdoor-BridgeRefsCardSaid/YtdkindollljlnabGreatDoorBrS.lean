/-
  BridgeRefs: what the executor is told; law 27's awake.
-/
import Derived.Test.YtdkindollljlnabGreatDoorJ7
import Derived.Test.YtdkindollljlnabGreatDoorMixB
import Derived.Test.YtdkindollljlnabGreatDoorJ8
set_option linter.unusedVariables false
set_option linter.unusedSectionVars false
set_option linter.unusedSimpArgs false
namespace Go.Proofs.YtdkindollljlnabGreatDoor
open Go Go.RowKit

noncomputable def summW : CallF :=
  onF 108 (orO collectROut collectDOut) (onF 90 pairsOut (onF 78 cloneOut (onF 75 cloneOut (onF 77 cloneOut
  (onF 176 subOut (onF 101 mixOut (onF 222 indexOut (onF 111 compareOut (onF 179 countOut (onF 82 compareBOut (onF 235 indexBOut (onF 79 collectIOut
  (onF 215 copyOut (onF 173 strOut noSumm))))))))))))))
section
variable [Known]
theorem summW_ok (b : Base) : CallSound Tryz.prog b summW :=
  onF_ok (fun _ _ _ _ _ _ h ho hr ha => (orO_or h).elim (fun h => collectROut_ok b h hr ha) fun h => collectDOut_ok b h hr ha) <| onF_ok (fun _ _ _ _ _ _ h ho hr ha => pairsOut_ok b h hr ha) <| onF_ok (fun _ _ _ _ _ _ h ho hr ha => cloneOut_ok cloneO_any b h hr ha) <| onF_ok (fun _ _ _ _ _ _ h ho hr ha => cloneOut_ok cloneK_any b h hr ha) <| onF_ok (fun _ _ _ _ _ _ h ho hr ha => cloneOut_ok cloneS_any b h hr ha) <|
  onF_ok (fun _ _ _ _ _ _ h ho hr ha => subOut_ok b h hr ha) <| onF_ok (fun _ _ _ _ _ _ h ho hr ha => mixOut_ok b h ho hr ha) <| onF_ok (fun _ _ _ _ _ _ h ho hr ha => indexOut_ok b h hr ha) <| onF_ok (fun _ _ _ _ _ _ h ho hr ha => compareOut_ok b h hr ha) <| onF_ok (fun _ _ _ _ _ _ h ho hr ha => countOut_ok b h hr ha) <| onF_ok (fun _ _ _ _ _ _ h ho hr ha => compareBOut_ok b h hr ha) <| onF_ok (fun _ _ _ _ _ _ h ho hr ha => indexBOut_ok b h hr ha) <| onF_ok (fun _ _ _ _ _ _ h ho hr ha => collectIOut_ok b h hr ha) <|
  onF_ok (fun _ _ _ _ _ _ h ho hr ha => copyOut_ok b h ho hr ha) <| onF_ok (fun _ _ _ _ _ _ h ho hr ha => strOut_ok b h ho hr ha) noSumm_ok
end
/-- Law 27: what a program that does nothing does not answer. -/
theorem awake27_run : allV (.bool true) (exec Tryz.prog summW 60 4 [] sh0) = true := by kernel_rfl
theorem awake27_any (w : World) (hml : MaxLenIs Tryz.prog w) : Calls Tryz.prog 4 #[] w fun e w' => e = .returned (.bool true) ∧ Below w.heap.size w w' :=
  exec_all followsM summW_ok (d := 60) (f := 4) (args := []) (v := .bool true) awake27_run (given := fun _ => .bool true) (fun _ => rfl) rfl (fun _ => rfl) w hml

/-- A function of the name alone. -/
noncomputable def nameOut (v : Bool) (args : List SV) (σ : SH) : Option Outs := match args with
  | [s] => @Bool.rec (fun _ => Option Outs) none (some [(.bool v, σ)]) (isName s)
  | _ => none
theorem maxLen_g : Tryz.prog.globals.findIdx? (·.name == "internal/bytealg.MaxLen") = some 2 := by kernel_rfl
section
variable {nm : ByteArray} {ns : List Nat} {oth : Bool}
theorem nameOut_ok {k : FuncId} {v : Bool} (hc : ∀ w, nm.size ≤ 300 → Lib.Utf8Tabs 0 1 w → (∃ m, w.cell? ⟨2, 0, none⟩ = some (.int .i64 m)) → Calls Tryz.prog k #[.string nm] w fun e w' => e = .returned (.bool v) ∧ Below w.heap.size w w')
    (b : Base) {args : List SV} {σ : SH} {outs : Outs} {env : Env} {w : World} {vs : List Value} (h : nameOut v args σ = some outs) (hr : @Rel (knownB nm ns oth) Tryz.prog b env σ w) (ha : denL env args = some vs) : Calls Tryz.prog k vs.toArray w (@Comes1 (knownB nm ns oth) Tryz.prog b env outs) := by
  letI : Known := knownB nm ns oth
  unfold nameOut at h
  split at h
  · rename_i s
    cases hb : isName s with
    | false => rw [hb] at h; cases h
    | true =>
      rw [hb] at h
      obtain rfl := isName_ok hb
      replace h : some [(SV.bool v, σ)] = some outs := h
      cases h
      have hk : NameK nm ns oth b.w b.keep env.given := hr.okay.2.2
      obtain ⟨u, us, h1, h2, rfl⟩ := denL_cons ha
      simp only [denL] at h2; cases h2
      obtain rfl := name_den hk h1
      have ht : Lib.Utf8Tabs 0 1 w := tabs_same hk.tabs (hr.below.block _ hk.k3).2 (hr.below.block _ hk.k4).2
      refine (hc w hk.short ht (hr.maxLen _ maxLen_g)).mono ?_
      rintro e w' ⟨rfl, hbw⟩
      exact ⟨_, List.mem_singleton.2 rfl, env, _, rfl, Env.le_refl _, hr.world hbw, by simp only [den]⟩
  · cases h
end
noncomputable def summB (r br : Bool) : CallF :=
  onF 8 (nameOut r) (onF 66 (nameOut r) (onF 11 (nameOut br) (onF 74 (nameOut br) (onF 4 trueOut summW))))
theorem summB_ok {nm : ByteArray} {ns : List Nat} {oth r br : Bool} (hr : r = rightV (Lib.validD nm.data.toList) nm.data.toList) (hbr : br = branchV (Lib.validD (heads ++ nm).data.toList) nm) (b : Base) : @CallSound (knownB nm ns oth) Tryz.prog b (summB r br) := by
  letI : Known := knownB nm ns oth
  have hz : nm.size ≤ 300 → (heads ++ nm).size ≤ 1000 := fun h => by rw [ByteArray.size_append]; show 11 + nm.size ≤ _; omega
  refine onF_ok (fun _ _ _ _ _ _ h ho hr' ha => nameOut_ok (fun w hs ht hm => ?_) b h hr' ha) <| onF_ok (fun _ _ _ _ _ _ h ho hr' ha => nameOut_ok (fun w hs ht hm => ?_) b h hr' ha) <| onF_ok (fun _ _ _ _ _ _ h ho hr' ha => nameOut_ok (fun w hs ht hm => ?_) b h hr' ha) <| onF_ok (fun _ _ _ _ _ _ h ho hr' ha => nameOut_ok (fun w hs ht hm => ?_) b h hr' ha) <| onF_ok (fun _ _ _ _ _ _ h _ hr ha => trueOut_ok awake27_any b h hr ha) (summW_ok b)
  · rw [hr]; exact rightRef_any nm w (by omega) _ (valid_says nm w (by omega) ht)
  · obtain ⟨m, hm⟩ := hm
    rw [hr]; exact right_any nm w (by omega) _ (valid_says nm w (by omega) ht) m hm
  · rw [hbr]; exact branchRef_any nm w (by omega) _ (valid_says (heads ++ nm) w (hz hs) ht)
  · obtain ⟨m, hm⟩ := hm
    rw [hbr]; exact branch_any nm w (by omega) _ (valid_says (heads ++ nm) w (hz hs) ht) m hm
end Go.Proofs.YtdkindollljlnabGreatDoor
