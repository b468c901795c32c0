/-
  BridgeRefs: for every name and every id the law answers true: what the row asks of the walk (BrW's).
-/
import Derived.Test.YtdkindollljlnabGreatDoorCards
import Derived.Test.YtdkindollljlnabGreatDoorTie
import Derived.Test.YtdkindollljlnabGreatDoorBrW
import Derived.WalkKit
import Derived.ProofKit
import Derived.OpenShut
import Derived.LaidMore
import Derived.HandedShaped
import Derived.Stop.LaidErr
import Derived.Deep.DeepHandedRow
import Derived.Carry
import Derived.Deep.DeepWitnessRowRef
import Derived.Lib.LaidTab
import Derived.Lib.LaidU8T
import Derived.Shelf.Vars
import Derived.Test.YtdkindollljlnabGreatDoorJ8
namespace Go.Proofs.YtdkindollljlnabGreatDoor.bridgeRefs
open Go.ChangeShapes Go.WideShapes Go.ChangeAt Go.RowKit Go.ChangeMaps

theorem laidOut : laidOutB Tryz.prog = true := by kernel_rfl
theorem own : ownKnob Tryz.prog.godebug = none := by kernel_rfl
theorem maxLen_of {W : World} (hsh : W.ShapedOpen Tryz.prog) : MaxLenIs Tryz.prog W := fun g hg => by
  obtain rfl : 2 = g := Option.some.inj ((show Tryz.prog.globals.findIdx? (·.name == "internal/bytealg.MaxLen") = some 2 by kernel_rfl).symm.trans hg)
  exact cell_of_shapedOpen_int (t := 3) (zero := #[.int .i64 0]) hsh (of_decide_eq_true (by kernel_rfl)) (by kernel_rfl) rfl (by kernel_rfl) (by kernel_rfl) (by kernel_rfl)
/-- The two tables of utf8, as the row lists them. -/
theorem tabs_of {W : World} (hL : laidMetH Tryz.prog Rows.bridgeRefsRow.laid W) : Lib.Utf8Tabs 0 1 W := by
  rw [MakeChecks.laidMetH_plain _ _ _ (by kernel_rfl)] at hL
  exact utf8Tabs_of_readsT (U8Types.of196 Tryz.lays196) ⟨by kernel_rfl, by kernel_rfl, by kernel_rfl, by kernel_rfl, by kernel_rfl, by kernel_rfl, by kernel_rfl⟩
    (Lib.laidMet.reads hL (List.mem_of_getElem? (i := 9) (by kernel_rfl))) (Lib.laidMet.reads hL (List.mem_of_getElem? (i := 3) (by kernel_rfl)))

set_option maxRecDepth 100000 in
/-- What the walk gives, for every argument and every world that the row admits. -/
theorem contract (H : Type) (enc : TypeId × Value → H) (W : World) (base : Nat) (args : Array Value) (ds gs : List (DataW H)) (before : List MemPlace) (hsh : W.ShapedOpen Tryz.prog)
    (hT : Lib.Utf8Tabs 0 1 W)
    (hval : ∀ (j : Nat) t v, Tryz.f3.params[j]? = some t → args[j]? = some v → Value.okWide Tryz.prog W .any base t v)
    (hW : DataW.Whole enc Tryz.prog Tryz.f3.params.toList Rows.bridgeRefsSpec.vars false W args.toList ds gs before) :
    Calls Tryz.prog 3 args W fun e W' => ∃ v, e = .returned v ∧ Rows.bridgeRefsSpec.post enc Tryz.prog Tryz.f3 false true false false W args v W' := by
  have hW' := hW
  obtain ⟨p, q, hA0, hV, rfl, hfz, hnd⟩ := hW
  have hA : DataW.TrodAll enc Tryz.prog W 0 (fun _ => true) true Tryz.f3.params.toList args.toList ds p := hA0
  rw [Tryz.params3] at hA hval
  obtain ⟨v0, v1, d0, d1, p0, p1, rfl, rfl, rfl, h0, h1⟩ := trodAll_two hA
  obtain ⟨rfl, rfl⟩ := trodVars_none hV
  obtain ⟨s, rfl, rfl, rfl, ws⟩ := open_string Tryz.underlying9 (hval 0 9 v0 rfl rfl) h0
  obtain ⟨ns, rfl, hns, hlt⟩ := agg_bytes (t := 23) (n := 20) (by kernel_rfl) (by kernel_rfl) (hval 1 23 v1 rfl rfl)
  clear hA0
  simp only [List.append_nil] at hW'
  refine (bridgeRefs_any s ns ⟨hns, hlt⟩ W (maxLen_of hsh) hT).mono fun e W' ⟨he, hg⟩ => ?_
  subst he
  have hlt : ∀ x ∈ p1, x.block < W.heap.size := fun x hx => by simpa using hW'.lt x (by simpa using hx)
  refine ⟨_, rfl, _, _, _, [], p1, [], hW', ?_, ?_, ?_, hg.frame _, fun h => by cases h⟩
  · exact trodAll_cons_mk (shut_bool Tryz.underlying4 _) trodAll_mk0
  · exact trodAll_mk2 (Below.trod laidOut (by kernel_rfl) (of_decide_eq_true (by kernel_rfl)) h0 hg fun x hx => by cases hx) (Below.trod laidOut (by kernel_rfl) (of_decide_eq_true (by kernel_rfl)) h1 hg fun x hx => hlt x hx)
  · rfl

theorem lay_met (os : Os) (args : Array Value) : laidMetH Tryz.prog Rows.bridgeRefsRow.laid ((World.laidAll Tryz.prog os Rows.bridgeRefsRow.laid).forCall (fun _ _ => 0) ⟨#[], args, []⟩).memory := by
  rw [MakeChecks.laidMetH_plain _ _ _ (by kernel_rfl)]
  exact laidMet_laidAll _ (by kernel_rfl) (by kernel_rfl)
def idZ : Value := .agg (List.replicate 20 (Value.int .u8 0)).toArray
theorem reads (os : Os) {H : Type} (enc : TypeId × Value → H) : ∃ places, DataW.whole enc Tryz.prog ((World.laidAll Tryz.prog os Rows.bridgeRefsRow.laid).forCall (fun _ _ => 0) ⟨#[], #[.string .empty, idZ], []⟩).memory Tryz.f3.params.toList Rows.bridgeRefsSpec.vars false #[Value.string .empty, idZ].toList 8 = some ([.lit (.string []), .agg [.lit (.int .u8 0), .lit (.int .u8 0), .lit (.int .u8 0), .lit (.int .u8 0), .lit (.int .u8 0), .lit (.int .u8 0), .lit (.int .u8 0), .lit (.int .u8 0), .lit (.int .u8 0), .lit (.int .u8 0), .lit (.int .u8 0), .lit (.int .u8 0), .lit (.int .u8 0), .lit (.int .u8 0), .lit (.int .u8 0), .lit (.int .u8 0), .lit (.int .u8 0), .lit (.int .u8 0), .lit (.int .u8 0), .lit (.int .u8 0)]], [], places) :=
  ⟨[], by kernel_rfl⟩

set_option maxRecDepth 100000 in
theorem lifted (os : Os) (started : os.Started) (H : Type) (enc : TypeId × Value → H) (F : Stop.Interp) :
    ReturnsInHanded {} Tryz.checked os 3 .any ((OpenSpec.ofChange Rows.bridgeRefsSpec).preRow enc Tryz.prog Tryz.f3 Rows.bridgeRefsRow.domain false Rows.bridgeRefsRow.laid) (((OpenSpec.ofChange Rows.bridgeRefsSpec).at F).post enc Tryz.prog Tryz.f3 false true false false) := by
  obtain ⟨places, hx⟩ := reads os enc
  refine returnsInHanded_of_row (C := Tryz.checked) (s := OpenSpec.ofChange Rows.bridgeRefsSpec) own started (by kernel_rfl) Tryz.func3
    (witness_shaped (enc := enc) (C := Tryz.checked) false (World.laidAll Tryz.prog os Rows.bridgeRefsRow.laid) #[.string .empty, idZ] (World.laidAll_os _ _ _) (World.shaped_of_ZipB (by kernel_rfl) (by kernel_rfl)) (by kernel_rfl)
      (OpenSpec.preRow_of_cond 8 hx (by kernel_rfl) (fun k hk => by cases hk) (by kernel_rfl) (lay_met os _))) ?_
  intro W base args ds gs before hval hW _ _ _ hL hsh _
  exact contract H enc W base args ds gs before hsh (tabs_of hL) hval hW

end Go.Proofs.YtdkindollljlnabGreatDoor.bridgeRefs
