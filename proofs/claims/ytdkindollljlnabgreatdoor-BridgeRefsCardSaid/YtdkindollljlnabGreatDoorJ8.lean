/-
  slices.Collect over maps.Keys of a known map of ids, as a summary of the executor: one outcome for each order in which the keys may come.

  strings.Index at whatever texts, by the shelf's contract, as the executor's summary.

  hexa.Hex: the digits of bytes. (strings.Builder's copyCheck, WriteByte, String at this seat, by the pattern of the shelf's.)

  hexa.Hex in the executor.

  strings.Builder's copyCheck and String, as the executor's summaries.

  slices.Collect over maps.Keys of another map with texts for keys.

  slices.Collect over maps.Keys of a map with texts for keys from which something may have been taken away.

  What every row of this kind asks: a composed value's cells; a start for the witness at a world that lays the listed variables by a function.

  A row of bytes among the arguments: its cells as numbers.
-/
import Derived.Test.YtdkindollljlnabGreatDoorJ7
import Derived.Test.YtdkindollljlnabGreatDoorShelf
import Derived.Test.YtdkindollljlnabGreatDoorChecked
import Derived.Lib.Strings
import Derived.Lib.Slices
import Derived.Lib.Walk
import Derived.Lib.Builder
import Derived.Lib.UnsafeStr
import Derived.WalkKit
import Derived.ProofKit
import Derived.Laws.Externs
import Derived.Test.YtdkindollljlnabGreatDoorJ5
import Derived.Maps.RangeRun
import Derived.RangeFuncGives
import Derived.Deep.WholeRow
import Derived.Laws.IdiomRangeMap
import Derived.OpenShut
import Derived.LaidMore
import Derived.HandedShaped
import Derived.Stop.LaidErr
import Derived.Deep.DeepHandedRow
import Derived.Deep.DeepWitnessRowRef
import Derived.Lib.LaidTab
import Derived.ChangeMaps5
import Derived.Carry
import Derived.Lay
import Derived.Lib.SmallJoins
set_option linter.unusedSectionVars false
set_option linter.unusedSimpArgs false
set_option linter.unusedVariables false
namespace Go.Proofs.YtdkindollljlnabGreatDoor
open Go Go.RowKit Go.Shelf Go.Maps
variable [Known]

/-- The keys of a map, by their cells. -/
def idKeys : List (SV × SV) → Option (List (List SV))
  | [] => some []
  | (.agg ks, _) :: r => match idKeys r with
    | some l => if Nat.beq ks.length 20 && allInt ks then some (ks :: l) else none
    | none => none
  | _ :: _ => none
theorem idKeys_ok {env : Env} : ∀ {es : List (SV × SV)} {kl : List (List SV)} {ks : List Value}, idKeys es = some kl → denL env (es.map (·.1)) = some ks →
    ∃ ps : List (List SV × List Value), ps.map (·.1) = kl ∧ (ps.map fun p => Value.agg p.2.toArray) = ks ∧ ∀ p ∈ ps, denL env p.1 = some p.2 ∧ p.2.length = 20 ∧ ∀ v ∈ p.2, v.oneCell' = true := by
  intro es
  induction es with
  | nil =>
    intro kl ks h hd
    simp only [idKeys] at h; cases h
    simp only [List.map_nil, denL] at hd; cases hd
    exact ⟨[], rfl, rfl, fun p hp => by cases hp⟩
  | cons x r ih =>
    intro kl ks h hd
    obtain ⟨a, u⟩ := x
    cases a <;> simp only [idKeys] at h <;> try (cases h; done)
    rename_i cs
    cases hr : idKeys r with
    | none => rw [hr] at h; cases h
    | some l =>
      rw [hr] at h
      simp only at h
      split at h
      · rename_i hc; cases h
        rw [Bool.and_eq_true] at hc
        obtain ⟨v, us, h1, h2, rfl⟩ := denL_cons (show denL env (SV.agg cs :: r.map (·.1)) = some ks from hd)
        obtain ⟨vs, h3, rfl⟩ := den_agg h1
        obtain ⟨ps, p1, p2, p3⟩ := ih hr h2
        refine ⟨(cs, vs) :: ps, by rw [List.map_cons, p1], by rw [List.map_cons, p2], fun p hp => ?_⟩
        rcases List.mem_cons.1 hp with rfl | hp
        · exact ⟨h3, (denL_length h3).trans (Nat.eq_of_beq_eq_true hc.1), allInt_one hc.2 h3⟩
        · exact p3 p hp
      · cases h
noncomputable def collectIOut (args : List SV) (σ : SH) : Option Outs := match args with
  | [.fn (.func g) [] [.ptr x 0]] => (match σ.get x with
    | some (.cells [.map m] _ _) => (match σ.get m with
      | some (.map es) => (match idKeys es with
        | some kl => @Bool.rec (fun _ => Option Outs) none (some ((perms kl).map fun p => rowOut 23 σ p.length p.flatten)) (Nat.beq g 81 && Nat.ble es.length 4)
        | none => none)
      | _ => none)
    | _ => none)
  | _ => none
theorem collectIOut_ok (b0 : Base) {args : List SV} {σ : SH} {outs : Outs} {env : Env} {w : World} {vs : List Value} (h : collectIOut args σ = some outs) (hr : Rel Tryz.prog b0 env σ w) (ha : denL env args = some vs) :
    Calls Tryz.prog 79 vs.toArray w (Comes1 Tryz.prog b0 env outs) := by
  unfold collectIOut at h
  split at h
  · rename_i g x
    split at h
    · rename_i m e1 x1 hx
      split at h
      · rename_i es hm
        split at h
        · rename_i kl hkl
          cases hc : (Nat.beq g 81 && Nat.ble es.length 4) with
          | false => rw [hc] at h; cases h
          | true =>
            rw [hc] at h
            replace h : some ((perms kl).map fun p => rowOut 23 σ p.length p.flatten) = some outs := h
            cases h
            rw [Bool.and_eq_true] at hc
            have hg := Nat.eq_of_beq_eq_true hc.1
            have hle4 := Nat.le_of_ble_eq_true hc.2
            subst hg
            obtain ⟨bx, cx, bm, ents, ks, hbx, hBm, hcell, hents, hkv, hkeys, hborn, hsz⟩ := hr.boxed hx hm
            obtain ⟨ps, p1, p2, p3⟩ := idKeys_ok hkl hkv
            have hkey : ∀ e ∈ ents.toList, ∃ kc : Array Value, e.key = .agg kc ∧ kc.size = 20 ∧ kc.all (·.oneCell') = true := fun e he => by
              have : e.key ∈ ks := hkeys ▸ List.mem_map.2 ⟨e, he, rfl⟩
              rw [← p2] at this
              obtain ⟨p, hp, he2⟩ := List.mem_map.1 this
              obtain ⟨_, q2, q3⟩ := p3 p hp
              exact ⟨p.2.toArray, he2.symm, by simpa using q2, by simpa using q3⟩
            obtain rfl : vs = [.func (.func 81) #[] #[.pointer (some ⟨bx, 0, none⟩)]] := by
              obtain ⟨v, us', h1, h2, rfl⟩ := denL_cons ha
              simp only [denL] at h2; cases h2
              simp only [den, denL, hbx, Option.some.injEq] at h1
              subst h1; rfl
            refine (collect_known w bx bm ents hkey hborn (by omega) hBm hcell hents).mono ?_
            rintro en w' ⟨v, ss, rfl, hperm, hrow, hnil, hb⟩
            rw [hkeys, ← p2] at hperm
            obtain ⟨qs, hq1, hq2⟩ := perm_lift _ _ _ hperm
            have hss : ss.flatMap keyCells = qs.flatMap (·.2) := by
              have : (qs.map fun p => p.2) = ss.map keyCells := by
                have e1 : (qs.map fun p => Value.agg p.2.toArray).map (fun v => match v with | .agg c => c.toList | _ => []) = (ss.map fun k => Value.agg k.kc).map (fun v => match v with | .agg c => c.toList | _ => []) := by rw [hq2]
                have e2 : (keyCells : IdK → List Value) = fun k => k.kc.toList := rfl
                rw [e2]
                simpa [List.map_map, Function.comp_def] using e1
              rw [List.flatMap_def, List.flatMap_def, this]
            have hlen : ss.length = (qs.map (·.1)).length := by
              have := congrArg List.length hq2
              simpa using this.symm
            have hd := denL_flatten qs (fun p hp => (p3 p (hq1.mem_iff.1 hp)).1)
            rw [hss, hlen] at hrow
            have hnil' : v = .slice none 0 0 ↔ (qs.map (·.1)).length = 0 := by
              rw [hnil, ← hlen]; exact List.length_eq_zero_iff.symm
            obtain ⟨env', h1, h2, h3⟩ := rowOut_ok hr hb hrow hnil' hd (by kernel_rfl)
            refine ⟨_, List.mem_map.2 ⟨qs.map (·.1), ?_, rfl⟩, env', v, rfl, h1, h2, h3⟩
            rw [← p1]
            exact mem_perms _ _ (hq1.map _)
        · cases h
      · cases h
    · cases h
  · cases h

end Go.Proofs.YtdkindollljlnabGreatDoor

namespace Go.Proofs.YtdkindollljlnabGreatDoor
open Go Go.RowKit
variable [Known]

def preN : List Nat → List Nat → Bool
  | [], _ => true
  | a :: x, b :: y => Nat.beq (Nat.mod a 256) (Nat.mod b 256) && preN x y
  | _ :: _, [] => false
def subN (m : List Nat) : List Nat → Nat → Option Nat
  | [], i => bif preN m [] then some i else none
  | b :: r, i => bif preN m (b :: r) then some i else subN m r (i + 1)
def subS (l m : List Nat) : Int := match subN m l 0 with
  | some i => (i : Nat)
  | none => -1
theorem preN_ok : ∀ (m l : List Nat), (m.map UInt8.ofNat).isPrefixOf (l.map UInt8.ofNat) = preN m l := by
  intro m
  induction m with
  | nil => intro l; simp [preN]
  | cons a x ih =>
    intro l
    cases l with
    | nil => rfl
    | cons b y =>
      simp only [List.map_cons, List.isPrefixOf_cons_cons, preN, ih, u8_eq]
      congr 1
      rw [Bool.eq_iff_iff, beq_iff_eq, Nat.beq_eq]
      rfl
theorem subN_ok (m : List Nat) : ∀ (l : List Nat) (i : Nat), (match subN m l i with
    | some k => Lib.index (l.map UInt8.ofNat) (m.map UInt8.ofNat) + i = (k : Nat) ∧ 0 ≤ Lib.index (l.map UInt8.ofNat) (m.map UInt8.ofNat)
    | none => Lib.index (l.map UInt8.ofNat) (m.map UInt8.ofNat) = -1) := by
  intro l
  induction l with
  | nil =>
    intro i
    cases m with
    | nil => simp [subN, preN, Lib.index]
    | cons a x => simp [subN, preN, Lib.index]
  | cons b r ih =>
    intro i
    have hp := preN_ok m (b :: r)
    rw [List.map_cons] at hp ⊢
    unfold Lib.index
    rw [hp]
    simp only [subN]
    cases h : preN m (b :: r) with
    | true => simp
    | false =>
      have hi := ih (i + 1)
      simp only [cond_false, Bool.false_eq_true, if_false]
      cases hk : subN m r (i + 1) with
      | some k =>
        rw [hk] at hi
        obtain ⟨h1, h2⟩ := hi
        have hne : ¬ ((Lib.index (r.map UInt8.ofNat) (m.map UInt8.ofNat) == -1) = true) := by
          intro he
          have := eq_of_beq he
          omega
        simp only [hne, Bool.false_eq_true, if_false]
        omega
      | none =>
        rw [hk] at hi
        simp only at hi
        simp [hi]
theorem subS_ok (l m : List Nat) : Lib.index (bytesOf l).data.toList (bytesOf m).data.toList = subS l m := by
  rw [bytesOf_list, bytesOf_list]
  have h := subN_ok m l 0
  unfold subS
  cases hk : subN m l 0 with
  | some k => rw [hk] at h; have := h.1; simp only; omega
  | none => rw [hk] at h; exact h

noncomputable def subOut (args : List SV) (σ : SH) : Option Outs := match args with
  | [.str l, .str m] => @Bool.rec (fun _ => Option Outs) none (some [(.int .i64 (subS l m), σ)]) (Nat.blt l.length 4294967281)
  | _ => none
theorem subOut_ok (b : Base) {args : List SV} {σ : SH} {outs : Outs} {env : Env} {w : World} {vs : List Value} (h : subOut args σ = some outs) (hr : Rel Tryz.prog b env σ w) (ha : denL env args = some vs) :
    Calls Tryz.prog 176 vs.toArray w (Comes1 Tryz.prog b env outs) := by
  unfold subOut at h
  split at h
  · rename_i l m
    cases hc : Nat.blt l.length 4294967281 with
    | false => rw [hc] at h; cases h
    | true =>
      rw [hc] at h
      replace h : some [(SV.int .i64 (subS l m), σ)] = some outs := h
      cases h
      have hc : l.length < 4294967281 := Nat.le_of_ble_eq_true hc
      obtain ⟨v, us, h1, h2, rfl⟩ := denL_cons ha
      obtain ⟨v2, us2, h3, h4, rfl⟩ := denL_cons h2
      simp only [den, Option.some.injEq] at h1 h3; subst h1; subst h3
      simp only [denL] at h4; cases h4
      obtain ⟨m0, hm0⟩ := hr.maxLen 2 (by kernel_rfl)
      refine (Tryz.stringslite_Index (bytesOf l) (bytesOf m) m0 w (by rw [bytesOf_size]; exact hc) hm0).mono ?_
      rintro e w' ⟨rfl, rfl⟩
      refine ⟨_, List.mem_singleton.2 rfl, env, _, rfl, Env.le_refl _, hr, ?_⟩
      simp only [den]
      rw [← subS_ok]
  · cases h
end Go.Proofs.YtdkindollljlnabGreatDoor

namespace Go.Proofs.YtdkindollljlnabGreatDoor
open Go Go.RowKit

theorem sizeBuilder : (Tryz.prog.info? 278).map (·.size) = some 2 := by kernel_rfl
theorem liesBuilder : liesAt Tryz.prog Tryz.prog.depth 278 (2 / Tryz.prog.cellsOf 278) 0 278 1 = true := by kernel_rfl
theorem infoByte : (Tryz.prog.info? 5).map (fun i => (i.zero, i.size, i.bytes)) = some (some (.int .u8 0), 1, 1) := by kernel_rfl
theorem cellsByte : Tryz.prog.cellsOf 5 = 1 := by kernel_rfl

set_option maxHeartbeats 1000000 in
set_option maxRecDepth 100000 in
theorem copyCheck_used (b : Nat) (w : World) (h0 : w.cell? ⟨b, 0, none⟩ = some (.pointer (some ⟨b, 0, none⟩))) :
    Calls Tryz.prog 215 #[.pointer (some ⟨b, 0, none⟩)] w fun e w' => e = .returned (.tuple #[]) ∧ w' = w := by
  obtain ⟨j, hj, _⟩ := Option.map_eq_some_iff.1 sizeBuilder
  go_enter Tryz.func215, Tryz.ntmps215
  go_wp2
  rw [Lib.run_neq_ptr_same w _ Tryz.underlying276 hj]
  go_wp2
  go_end0
  exact ⟨rfl, rfl⟩

set_option maxHeartbeats 1000000 in
set_option maxRecDepth 100000 in
theorem copyCheck_fresh (b : Nat) (w : World) (h0 : w.cell? ⟨b, 0, none⟩ = some (.pointer none)) (hsh : w.shape? b = some (278, 2)) (hfz : w.frozen? ⟨b, 0, none⟩ = false) :
    Calls Tryz.prog 215 #[.pointer (some ⟨b, 0, none⟩)] w fun e w' => e = .returned (.tuple #[]) ∧ w' = w.setCell ⟨b, 0, none⟩ (.pointer (some ⟨b, 0, none⟩)) := by
  obtain ⟨j, hj, hjs⟩ := Option.map_eq_some_iff.1 sizeBuilder
  go_enter Tryz.func215, Tryz.ntmps215
  go_wp2
  rw [Lib.run_to_unsafe w ⟨b, 0, none⟩ Tryz.underlying276 Tryz.underlying356 hj (by rw [hjs]; decide) hsh (Nat.zero_lt_succ 1)]
  simp only [Result.andThen]
  rw [Oper.upon_value]
  go_wp2
  rw [run_callFunc_extern Tryz.func256 (by kernel_rfl) (by kernel_rfl) (by kernel_rfl) (e := Extern.AbiNoEscape.same) (by kernel_rfl)]
  rw [Lib.run_noEscape]
  simp only [Result.andThen]
  rw [Oper.upon_value]
  go_wp2
  rw [Lib.run_from_unsafe w ⟨b, 0, none⟩ Tryz.underlying356 Tryz.underlying276 hj hsh liesBuilder]
  simp only [Result.andThen]
  rw [Oper.upon_value]
  go_wp2
  go_end0
  exact ⟨rfl, rfl⟩

theorem copyCheck_any (B b : Nat) (bs : List Value) (w : World) (h : Lib.IsBuilder 278 5 B b bs w) :
    Calls Tryz.prog 215 #[.pointer (some ⟨b, 0, none⟩)] w fun e w' => e = .returned (.tuple #[]) ∧ (Lib.BuilderAt 278 5 B b (.pointer (some ⟨b, 0, none⟩)) bs w' ∧ Below B w w') := by
  rcases h with h | h
  · refine (copyCheck_fresh b w h.cell0 h.shape h.frozen0).mono ?_
    rintro e w' ⟨rfl, rfl⟩
    exact ⟨rfl, h.used _, (Below.refl B w).setCell (p := ⟨b, 0, none⟩) h.1 _⟩
  · refine (copyCheck_used b w h.cell0).mono ?_
    rintro e w' ⟨rfl, rfl⟩
    exact ⟨rfl, h, Below.refl B _⟩

set_option maxHeartbeats 2000000 in
set_option maxRecDepth 100000 in
theorem writeByte_any (B b : Nat) (bs : List Value) (c : Int) (w : World) (h : Lib.IsBuilder 278 5 B b bs w) (hlen : bs.length + 1 ≤ 140737488355328) (hBw : B ≤ w.heap.size) :
    Calls Tryz.prog 216 #[.pointer (some ⟨b, 0, none⟩), .int .u8 c] w fun e w' => e = .returned .nilIface ∧ (Lib.BuilderAt 278 5 B b (.pointer (some ⟨b, 0, none⟩)) (bs ++ [.int .u8 c]) w' ∧ Below B w w') := by
  obtain ⟨i0, hi, hz0, hz1, hz2⟩ := info_parts infoByte
  go_enter Tryz.func216, Tryz.ntmps216
  go_wp2_with (go_at_call 215; refine (copyCheck_any B b bs _ h).mono ?_)
  rintro e w1 ⟨rfl, h1, hb1⟩
  obtain ⟨hB, v, hbk, hown, hne⟩ := h1
  have c0 : w1.cell? ⟨b, 0, none⟩ = some (.pointer (some ⟨b, 0, none⟩)) := by rw [Lib.cell_of_heap hbk]; rfl
  have c1 : w1.cell? ⟨b, 1, none⟩ = some v := by rw [Lib.cell_of_heap hbk]; rfl
  go_wp2_with (at_builtin; refine wpList_append_own _ rfl _ _ 33 rfl B 5 i0 (.int .u8 0) 1 1 Tryz.underlying33 hi hz0 hz1 hz2 rfl (by decide) _ _ _ rfl (hown.alloc _) ⟨w1.heap.size, 0, none⟩ 1 1 [.int .u8 c] rfl rfl ?c1 ?c2 ?c3 ?c4 ?c5 ?_)
  case c1 =>
    intro j u hj
    match j, hj with
    | 0, hj => simp at hj; subst hj; simp [Addr.add]
  case c2 => intro u hu; simp at hu; subst hu; rfl
  case c3 => unfold maxLen; omega
  case c4 => omega
  case c5 => have := hb1.size; simp; omega
  intro v' w2 hown' hgrow _
  have hlt : b < w1.heap.size := by
    rcases Nat.lt_or_ge b w1.heap.size with h' | h'
    · exact h'
    · simp [Array.getElem?_eq_none h'] at hbk
  have hb2 : w2.heap[b]? = some (.cells #[.pointer (some ⟨b, 0, none⟩), v] 278 (0, 0)) := by
    rw [hgrow.block b (by simp; omega) (fun e => hne e.symm), Lib.alloc_old w1 _ b hlt]
    exact hbk
  have d0 : w2.cell? ⟨b, 0, none⟩ = some (.pointer (some ⟨b, 0, none⟩)) := by rw [Lib.cell_of_heap hb2]; rfl
  have d1 : w2.cell? ⟨b, 1, none⟩ = some v := by rw [Lib.cell_of_heap hb2]; rfl
  have f1 : w2.frozen? ⟨b, 1, none⟩ = false := Lib.frozen_of_heap hb2 1
  obtain ⟨g, cap, rfl⟩ : ∃ g cap, v' = .slice (some ⟨g, 0, none⟩) (bs.length + 1) cap := by
    rcases hown'.2 with ⟨_, h0⟩ | ⟨g, cap, cur, hv, _⟩
    · omega
    · exact ⟨g, cap, hv⟩
  go_wp2
  go_ret
  refine ⟨rfl, ?_, ?_⟩
  · exact Lib.BuilderAt.put (T := 278) (e := 5) hB hb2 (bs' := bs ++ [.int .u8 c]) (by simpa using hown') (by decide)
  · exact ((hb1.alloc (by have := hb1.size; omega) _).grown hgrow (by have := hb1.size; simp; omega) (fun k hk => (hown.lt k hk).1)).setCell (p := ⟨b, 1, none⟩) hB _

set_option maxHeartbeats 1000000 in
set_option maxRecDepth 100000 in
theorem builderString_any (B b : Nat) (l : List UInt8) (w : World) (h : Lib.IsBuilder 278 5 B b (Lib.byteCells l) w) (h0 : l ≠ []) :
    Calls Tryz.prog 173 #[.pointer (some ⟨b, 0, none⟩)] w fun e w' => e = .returned (.string ⟨l.toArray⟩) ∧ Below B w w' := by
  obtain ⟨p, hB, v, hbk, hown, hne⟩ : ∃ p, Lib.BuilderAt 278 5 B b p (Lib.byteCells l) w := by
    rcases h with h | h
    · exact ⟨_, h⟩
    · exact ⟨_, h⟩
  have hl0 : l.length ≠ 0 := by simpa using h0
  rw [Lib.byteCells_length] at hown
  obtain ⟨g, cap, cur, rfl, hbg, hg, hnc, hcm, hcs, htake⟩ : ∃ g cap cur, v = .slice (some ⟨g, 0, none⟩) l.length cap ∧ B ≤ g ∧ w.heap[g]? = some (.cells cur 5 (0, 0)) ∧ l.length ≤ cap ∧ cap ≤ maxLen ∧ cur.size = cap * 1 ∧ cur.toList.take (l.length * 1) = Lib.byteCells l := by
    rcases hown.2 with ⟨_, hz⟩ | ⟨g, cap, cur, hv, r⟩
    · exact absurd hz hl0
    · exact ⟨g, cap, cur, hv, r⟩
  have c1 : w.drew.cell? ⟨b, 1, none⟩ = some (.slice (some ⟨g, 0, none⟩) l.length cap) := by
    have : w.drew.heap[b]? = some (.cells #[p, .slice (some ⟨g, 0, none⟩) l.length cap] 278 (0, 0)) := hbk
    rw [Lib.cell_of_heap this]; rfl
  have hSD : (Builtin.unsafeSliceData_ #[33] 327 #[.slice (some ⟨g, 0, none⟩) l.length cap]).run Tryz.prog w.drew = .ok (.pointer (some ⟨g, 0, none⟩)) w.drew :=
    Lib.run_unsafeSliceData_row _ _ _ _ _ _ (by omega)
  have hUS : (Builtin.unsafeString_ #[327, 3] 9 #[.pointer (some ⟨g, 0, none⟩), .int .i64 l.length]).run Tryz.prog w.drew = .ok (.string ⟨l.toArray⟩) (w.drew.freeze ⟨g, 0, none⟩ l.length) := by
    refine Lib.run_unsafeString_row w.drew 327 3 9 5 Tryz.underlying327 cellsByte g cur.size (by have hg' : w.drew.heap[g]? = some (.cells cur 5 (0, 0)) := hg; simp [World.shape?, hg']) l h0 (by omega) (by unfold maxLen at hcm; omega) ?_
    intro j x hx
    have := hown.cells (g := g) rfl j (.int .u8 x.toNat) (by simp [Lib.byteCells, hx])
    exact this
  go_enter Tryz.func173, Tryz.ntmps173
  go_wp2
  go_region
  all_goals (go_wp2; go_ret; exact ⟨rfl, Lib.below_freeze (Below.drew (Below.refl B w)) (p := ⟨g, 0, none⟩) hbg _⟩)

def hexDigit (n : Nat) : UInt8 := if n < 10 then UInt8.ofNat (48 + n) else UInt8.ofNat (87 + n)
def hexOf : List UInt8 → List UInt8
  | [] => []
  | c :: r => hexDigit (c.toNat / 16) :: hexDigit (c.toNat % 16) :: hexOf r
theorem hexOf_append (a b : List UInt8) : hexOf (a ++ b) = hexOf a ++ hexOf b := by
  induction a with
  | nil => rfl
  | cons x r ih => simp [hexOf, ih]
theorem hexOf_length (a : List UInt8) : (hexOf a).length = 2 * a.length := by
  induction a with
  | nil => rfl
  | cons x r ih => simp [hexOf, ih]; omega

theorem digitAt : ∀ n, (h : n < 16) → (ByteArray.mk #[48, 49, 50, 51, 52, 53, 54, 55, 56, 57, 97, 98, 99, 100, 101, 102])[n]'h = hexDigit n := by decide

set_option maxHeartbeats 2000000 in
set_option maxRecDepth 100000 in
theorem hex_any (l : List UInt8) (g off cap : Nat) (w : World) (hg : g < w.heap.size) (hcells : ∀ j x, l[j]? = some x → w.cell? ⟨g, off + j, none⟩ = some (.int .u8 x.toNat)) (hne : l ≠ []) (hlen : l.length ≤ 1000000) :
    Calls Tryz.prog 171 #[.slice (some ⟨g, off, none⟩) l.length cap] w fun e w' => e = .returned (.string ⟨(hexOf l).toArray⟩) ∧ Below w.heap.size w w' := by
  go_enter Tryz.func171, Tryz.ntmps171
  go_wp2_with fail
  go_loopw [5, 8] (fun _ i wr => ∃ k : Nat, k ≤ l.length ∧ i = .int .i64 k ∧ Lib.IsBuilder 278 5 w.heap.size w.heap.size (Lib.byteCells (hexOf (l.take k))) wr ∧ Below w.heap.size w wr) (fun _ i _ => l.length - (intOf i).toNat)
  case atStart => exact ⟨0, Nat.zero_le _, rfl, Lib.fresh_isBuilder _ _ w, (Below.refl _ w).alloc (Nat.le_refl _) _⟩
  case round =>
    obtain ⟨k, hk, rfl, hB, hb⟩ := hrel
    by_cases hlt : k < l.length
    · obtain ⟨x, hx⟩ : ∃ x, l[k]? = some x := ⟨_, List.getElem?_eq_getElem hlt⟩
      have hc : wr.cell? ⟨g, off + k, none⟩ = some (.int .u8 x.toNat) := (hb.cell (p := ⟨g, off + k, none⟩) hg).trans (hcells k x hx)
      have hkl : (k : Int) < l.length := by omega
      have hx256 : x.toNat < 256 := x.toNat_lt
      have h16 : (0 : Int) ≤ (x.toNat : Int) / 16 ∧ (x.toNat : Int) / 16 < 16 := by omega
      have hq := digitAt (x.toNat / 16) (by omega)
      have h16' : (0 : Int) ≤ (x.toNat : Int) % 16 ∧ (x.toNat : Int) % 16 < 16 := by omega
      have hq' := digitAt (x.toNat % 16) (by omega)
      have hk0 : (Lib.byteCells (hexOf (l.take k)) ++ [Value.int .u8 (hexDigit (x.toNat / 16)).toNat]) ++ [Value.int .u8 (hexDigit (x.toNat % 16)).toNat] = Lib.byteCells (hexOf (l.take (k + 1))) := by
        rw [List.take_add_one, hx, hexOf_append]; simp [hexOf, Lib.byteCells]
      have hlen1 : (Lib.byteCells (hexOf (l.take k))).length + 1 ≤ 140737488355328 := by rw [Lib.byteCells_length, hexOf_length, List.length_take]; omega
      have hlen2 : (Lib.byteCells (hexOf (l.take k)) ++ [Value.int .u8 (hexDigit (x.toNat / 16)).toNat]).length + 1 ≤ 140737488355328 := by rw [List.length_append, Lib.byteCells_length, hexOf_length, List.length_take]; simp; omega
      go_wp2_with (go_at_call 216; first
        | (refine (writeByte_any w.heap.size w.heap.size _ _ _ hB hlen1 hb.size).mono ?_; rintro e w1 ⟨rfl, h1, hb1⟩)
        | (refine (writeByte_any w.heap.size w.heap.size _ _ _ (.inr h1) hlen2 (Nat.le_trans hb.size hb1.size)).mono ?_; rintro e w2 ⟨rfl, h2, hb2⟩))
      rw [hk0] at h2
      go_roundw
      case rel => exact ⟨k + 1, by omega, by simp, .inr h2, (hb.trans hb1).trans hb2⟩
      case measure => simp [intOf]; omega
    · have hke : k = l.length := by omega
      subst hke
      rw [List.take_length] at hB
      have hnlt : ¬ ((l.length : Int) < l.length) := by omega
      have hne2 : hexOf l ≠ [] := by
        cases l with
        | nil => exact absurd rfl hne
        | cons y r => simp [hexOf]
      go_wp2_with (go_at_call 173; refine (builderString_any w.heap.size w.heap.size _ _ hB hne2).mono ?_; rintro e w3 ⟨rfl, hb3⟩)
      go_ret
      exact ⟨rfl, hb.trans hb3⟩
end Go.Proofs.YtdkindollljlnabGreatDoor

namespace Go.Proofs.YtdkindollljlnabGreatDoor
open Go Go.RowKit
variable [Known]

/-- Known bytes. -/
noncomputable def bytesL : List SV → Option (List Nat)
  | [] => some []
  | .int .u8 (.ofNat n) :: r => match bytesL r with
    | some l => @Bool.rec (fun _ => Option (List Nat)) none (some (n :: l)) (Nat.blt n 256)
    | none => none
  | _ :: _ => none
theorem bytesL_ok {env : Env} : ∀ {l : List SV} {ks : List Nat} {vs : List Value}, bytesL l = some ks → denL env l = some vs → vs = Lib.byteCells (ks.map UInt8.ofNat) := by
  intro l
  induction l with
  | nil => intro ks vs h hd; simp only [bytesL] at h; cases h; simp only [denL] at hd; cases hd; rfl
  | cons x r ih =>
    intro ks vs h hd
    obtain ⟨v, us, h1, h2, rfl⟩ := denL_cons hd
    unfold bytesL at h
    split at h
    · rename_i heq; cases heq
    · rename_i n r' heq
      cases heq
      split at h
      · rename_i l' hl
        cases hb : Nat.blt n 256 with
        | false => rw [hb] at h; exact absurd (show (none : Option (List Nat)) = some ks from h) (by simp)
        | true =>
          rw [hb] at h
          replace h : some (n :: l') = some ks := h
          cases h
          have hn : n < 256 := Nat.le_of_ble_eq_true hb
          simp only [den, Option.some.injEq] at h1
          subst h1
          rw [ih hl h2]
          have : (UInt8.ofNat n).toNat = n := by simp; omega
          simp [Lib.byteCells, this]
      · cases h
    · cases h
noncomputable def digN (n : Nat) : Nat := @Bool.rec (fun _ => Nat) (Nat.add 87 n) (Nat.add 48 n) (Nat.blt n 10)
noncomputable def hexN : List Nat → List Nat
  | [] => []
  | n :: r => digN (Nat.div n 16) :: digN (Nat.mod n 16) :: hexN r
theorem digN_ok (n : Nat) : UInt8.ofNat (digN n) = hexDigit n := by
  unfold digN hexDigit
  by_cases h : n < 10
  · rw [if_pos h, show Nat.blt n 10 = true from Nat.ble_eq_true_of_le h]
    rfl
  · rw [if_neg h]
    have : Nat.blt n 10 = false := by
      cases hb : Nat.blt n 10 with
      | false => rfl
      | true => exact absurd (Nat.le_of_ble_eq_true hb) h
    rw [this]; rfl
theorem hexN_ok : ∀ (l : List Nat), (∀ n ∈ l, n < 256) → (hexN l).map UInt8.ofNat = hexOf (l.map UInt8.ofNat) := by
  intro l
  induction l with
  | nil => intro _; rfl
  | cons n r ih =>
    intro h
    have hn : n < 256 := h n (by simp)
    have : (UInt8.ofNat n).toNat = n := by simp; omega
    simp only [hexN, List.map_cons, hexOf, this, digN_ok, ih (fun m hm => h m (by simp [hm]))]
    rfl
theorem bytesL_lt : ∀ {l : List SV} {ks : List Nat}, bytesL l = some ks → ∀ n ∈ ks, n < 256 := by
  intro l
  induction l with
  | nil => intro ks h; simp only [bytesL] at h; cases h; simp
  | cons x r ih =>
    intro ks h
    unfold bytesL at h
    split at h
    · rename_i heq; cases heq
    · rename_i n r' heq
      cases heq
      split at h
      · rename_i l' hl
        cases hb : Nat.blt n 256 with
        | false => rw [hb] at h; exact absurd (show (none : Option (List Nat)) = some ks from h) (by simp)
        | true =>
          rw [hb] at h
          replace h : some (n :: l') = some ks := h
          cases h
          intro m hm
          rcases List.mem_cons.1 hm with rfl | hm
          · exact Nat.le_of_ble_eq_true hb
          · exact ih hl m hm
      · cases h
    · cases h

noncomputable def hexOut (args : List SV) (σ : SH) : Option Outs := match args with
  | [.slice n off len _] => (match σ.get n with
    | some (.cells l _ _) => (match bytesL ((l.drop off).take len) with
      | some ks => @Bool.rec (fun _ => Option Outs) none (some [(.str (hexN ks), σ)]) (Nat.beq ks.length len && Nat.blt 0 len && Nat.ble len 1000000)
      | none => none)
    | _ => none)
  | _ => none
theorem hexOut_ok (b0 : Base) {args : List SV} {σ : SH} {outs : Outs} {env : Env} {w : World} {vs : List Value} (h : hexOut args σ = some outs) (ho : env.ones) (hr : Rel Tryz.prog b0 env σ w) (ha : denL env args = some vs) :
    Calls Tryz.prog 171 vs.toArray w (Comes1 Tryz.prog b0 env outs) := by
  unfold hexOut at h
  split at h
  · rename_i n off len cap
    split at h
    · rename_i l e1 x1 hn
      split at h
      · rename_i ks hks
        cases hc : (Nat.beq ks.length len && Nat.blt 0 len && Nat.ble len 1000000) with
        | false => rw [hc] at h; exact absurd (show (none : Option Outs) = some outs from h) (by simp)
        | true =>
          rw [hc] at h
          replace h : some [(SV.str (hexN ks), σ)] = some outs := h
          cases h
          simp only [Bool.and_eq_true] at hc
          obtain ⟨⟨c1, c2⟩, c3⟩ := hc
          have c1 := Nat.eq_of_beq_eq_true c1
          have c2 : 0 < len := Nat.le_of_ble_eq_true c2
          have c3 := Nat.le_of_ble_eq_true c3
          obtain ⟨b, c, hb, _, hO⟩ := hr.obj n _ hn
          obtain ⟨cur, t, fr, us, hcur, hth, hus, htake, _⟩ := hO
          have hsl := bytesL_ok hks (denL_take len (denL_drop off hus))
          obtain rfl : vs = [.slice (some ⟨b, off, none⟩) len (capOf c cap)] := by
            obtain ⟨v, us', h1, h2, rfl⟩ := denL_cons ha
            simp only [denL] at h2; cases h2
            simp only [den, hb, Option.some.injEq] at h1
            subst h1; rfl
          have hlen : (ks.map UInt8.ofNat).length = len := by simpa using c1
          have := hex_any (ks.map UInt8.ofNat) b off (capOf c cap) w (Array.getElem?_eq_some_iff.1 hcur).1 (fun j x hx => by
            rw [cell_of_row w b (off + j) cur t fr hcur]
            have h1 : ((us.drop off).take len)[j]? = some (.int .u8 x.toNat) := by
              rw [hsl]; unfold Lib.byteCells; rw [List.getElem?_map, hx]; rfl
            have hj : j < len := by
              rcases Nat.lt_or_ge j len with h | h
              · exact h
              · rw [List.getElem?_eq_none (by omega)] at hx; cases hx
            rw [List.getElem?_take_of_lt hj, List.getElem?_drop, ← htake] at h1
            rw [← Array.getElem?_toList]
            rw [List.getElem?_take] at h1
            split at h1
            · exact h1
            · cases h1) (by intro he; rw [he] at hlen; simp at hlen; omega) (by omega)
          rw [hlen] at this
          refine this.mono ?_
          rintro en w' ⟨rfl, hbl⟩
          refine ⟨_, List.mem_singleton.2 rfl, env, _, rfl, Env.le_refl _, hr.world hbl, ?_⟩
          simp only [den, bytesOf]
          rw [hexN_ok ks (bytesL_lt hks)]
      · cases h
    · cases h
  · cases h
end Go.Proofs.YtdkindollljlnabGreatDoor

namespace Go.Proofs.YtdkindollljlnabGreatDoor
open Go Go.RowKit
variable [Known]

/-- copyCheck: the builder knows where it lies. -/
noncomputable def copyOut (args : List SV) (σ : SH) : Option Outs := match args with
  | [.ptr n 0] => (match σ.get n with
    | some (.cells (.nilp :: [y]) e true) => @Bool.rec (fun _ => Option Outs) none (some [(.tuple [], σ.put n (some (.cells (patch (.nilp :: [y]) 0 [.ptr n 0]) e true)))]) (Nat.beq e 278)
    | some (.cells (.ptr m 0 :: [y]) e true) => @Bool.rec (fun _ => Option Outs) none (some [(.tuple [], σ)]) (Nat.beq m n)
    | _ => none)
  | _ => none
theorem copyOut_ok (b0 : Base) {args : List SV} {σ : SH} {outs : Outs} {env : Env} {w : World} {vs : List Value} (h : copyOut args σ = some outs) (ho : env.ones) (hr : Rel Tryz.prog b0 env σ w) (ha : denL env args = some vs) :
    Calls Tryz.prog 215 vs.toArray w (Comes1 Tryz.prog b0 env outs) := by
  unfold copyOut at h
  split at h
  · rename_i n
    obtain ⟨v, us, h1, h2, rfl⟩ := denL_cons ha
    simp only [denL] at h2; cases h2
    obtain ⟨b, c, hb, rfl⟩ := den_ptr h1
    split at h
    · rename_i y e hn
      cases hc : Nat.beq e 278 with
      | false => rw [hc] at h; cases h
      | true =>
        rw [hc] at h
        replace h : some [(SV.tuple [], σ.put n (some (.cells (patch (.nilp :: [y]) 0 [.ptr n 0]) e true)))] = some outs := h
        cases h
        obtain rfl := Nat.eq_of_beq_eq_true hc
        obtain ⟨b', c', e1, hnk, cur, t, fr, xs, g1, g2, g3, g4, g5, g6⟩ := hr.obj n _ hn
        rw [hb] at e1; cases e1
        obtain ⟨g5a, rfl⟩ := g5 rfl
        obtain ⟨x, hx, c0, f0⟩ := hr.cell hn hb (i := 0) (s := .nilp) rfl
        simp only [den, Option.some.injEq] at hx; subst hx
        have hsh : w.shape? b = some (278, 2) := by simp only [World.shape?, g1]; rw [g5a]; rfl
        refine (copyCheck_fresh b w c0 hsh f0).mono ?_
        rintro en w' ⟨rfl, rfl⟩
        have hv : denL env [SV.ptr n 0] = some [Value.pointer (some ⟨b, 0, none⟩)] := denL_mk h1 rfl
        obtain ⟨_, hR⟩ := hr.setCells ho hn hb (off := 0) (news := [.ptr n 0]) (by simp) rfl hv
        exact ⟨_, List.mem_singleton.2 rfl, env, _, rfl, Env.le_refl _, hR, by simp only [den, denL]⟩
    · rename_i m y e hn
      cases hc : Nat.beq m n with
      | false => rw [hc] at h; cases h
      | true =>
        rw [hc] at h
        replace h : some [(SV.tuple [], σ)] = some outs := h
        cases h
        obtain rfl := Nat.eq_of_beq_eq_true hc
        obtain ⟨x, hx, c0, f0⟩ := hr.cell hn hb (i := 0) (s := .ptr m 0) rfl
        rw [h1] at hx; cases hx
        refine (copyCheck_used b w c0).mono ?_
        rintro en w' ⟨rfl, rfl⟩
        exact ⟨_, List.mem_singleton.2 rfl, env, _, rfl, Env.le_refl _, hr, by simp only [den, denL]⟩
    · cases h
  · cases h

/-- A row behind a freeze: no other block is touched. -/
theorem freeze_other (w : World) (a : Addr) (n : Nat) (k : Nat) (hk : k ≠ a.block) : (w.freeze a n).heap[k]? = w.heap[k]? := by
  unfold World.freeze
  split
  · rfl
  · simp only
    rw [Array.getElem?_modify]
    rw [if_neg (Ne.symm hk)]
theorem freeze_size (w : World) (a : Addr) (n : Nat) : (w.freeze a n).heap.size = w.heap.size := by
  unfold World.freeze
  split
  · rfl
  · simp only [Array.size_modify]
set_option maxHeartbeats 1000000 in
set_option maxRecDepth 100000 in
theorem builderString_at (b g cap : Nat) (l : List UInt8) (w : World) (h1 : w.cell? ⟨b, 1, none⟩ = some (.slice (some ⟨g, 0, none⟩) l.length cap)) (h0 : l ≠ []) (hcap : l.length ≤ cap) (size : Nat) (hsh : w.shape? g = some (5, size)) (hsz : l.length ≤ size) (hmax : l.length ≤ 9223372036854775807)
    (hcell : ∀ j x, l[j]? = some x → w.cell? ⟨g, j, none⟩ = some (.int .u8 x.toNat)) :
    Calls Tryz.prog 173 #[.pointer (some ⟨b, 0, none⟩)] w fun e w' => e = .returned (.string ⟨l.toArray⟩) ∧ w'.os = w.os ∧ w'.tape = w.tape ∧ w'.output = w.output ∧ w'.heap.size = w.heap.size ∧ ∀ k, k ≠ g → w'.heap[k]? = w.heap[k]? := by
  have hl0 : l.length ≠ 0 := by simpa using h0
  have c1 : w.drew.cell? ⟨b, 1, none⟩ = some (.slice (some ⟨g, 0, none⟩) l.length cap) := h1
  have hSD : (Builtin.unsafeSliceData_ #[33] 327 #[.slice (some ⟨g, 0, none⟩) l.length cap]).run Tryz.prog w.drew = .ok (.pointer (some ⟨g, 0, none⟩)) w.drew :=
    Lib.run_unsafeSliceData_row _ _ _ _ _ _ (by omega)
  have hUS : (Builtin.unsafeString_ #[327, 3] 9 #[.pointer (some ⟨g, 0, none⟩), .int .i64 l.length]).run Tryz.prog w.drew = .ok (.string ⟨l.toArray⟩) (w.drew.freeze ⟨g, 0, none⟩ l.length) := by
    refine Lib.run_unsafeString_row w.drew 327 3 9 5 Tryz.underlying327 cellsByte g size hsh l h0 hsz hmax ?_
    intro j x hx
    rw [show ((⟨g, 0, none⟩ : Addr).add j) = ⟨g, j, none⟩ from by rw [add_none, Nat.zero_add]]
    exact hcell j x hx
  go_enter Tryz.func173, Tryz.ntmps173
  go_wp2
  go_region
  all_goals (go_wp2; go_ret; exact ⟨rfl, by unfold World.freeze; split <;> rfl, by unfold World.freeze; split <;> rfl, by unfold World.freeze; split <;> rfl, (freeze_size w.drew _ _), fun k hk => freeze_other w.drew ⟨g, 0, none⟩ _ k hk⟩)
noncomputable def strOut (args : List SV) (σ : SH) : Option Outs := match args with
  | [.ptr n 0] => (match σ.get n with
    | some (.cells [a, .slice m 0 len (.rest 0)] e0 x0) => (match σ.get m with
      | some (.cells l e false) => (match bytesL (takeR l len) with
        | some ks => @Bool.rec (fun _ => Option Outs) none (some [(.str ks, σ.put m none)]) (Nat.beq ks.length len && Nat.blt 0 len && Nat.ble len 1000000 && Nat.beq e 5)
        | none => none)
      | _ => none)
    | _ => none)
  | _ => none
theorem strOut_ok (b0 : Base) {args : List SV} {σ : SH} {outs : Outs} {env : Env} {w : World} {vs : List Value} (h : strOut args σ = some outs) (ho : env.ones) (hr : Rel Tryz.prog b0 env σ w) (ha : denL env args = some vs) :
    Calls Tryz.prog 173 vs.toArray w (Comes1 Tryz.prog b0 env outs) := by
  unfold strOut at h
  split at h
  · rename_i n
    obtain ⟨v, us, h1, h2, rfl⟩ := denL_cons ha
    simp only [denL] at h2; cases h2
    obtain ⟨b, c, hb, rfl⟩ := den_ptr h1
    split at h
    · rename_i a m len e0 x0 hn
      split at h
      · rename_i l e hm
        rw [takeR_eq] at h
        split at h
        · rename_i ks hks
          cases hc : (Nat.beq ks.length len && Nat.blt 0 len && Nat.ble len 1000000 && Nat.beq e 5) with
          | false => rw [hc] at h; cases h
          | true =>
            rw [hc] at h
            replace h : some [(SV.str ks, σ.put m none)] = some outs := h
            cases h
            simp only [Bool.and_eq_true] at hc
            obtain ⟨⟨⟨c1, c2⟩, c3⟩, c4⟩ := hc
            have c1 := Nat.eq_of_beq_eq_true c1
            have c2 : 0 < len := Nat.le_of_ble_eq_true c2
            have c3 := Nat.le_of_ble_eq_true c3
            obtain rfl := Nat.eq_of_beq_eq_true c4
            obtain ⟨bm, cm, hbm, hnk, hO⟩ := hr.obj m _ hm
            have hO' := hO
            obtain ⟨cur, t, fr, us, hcur, hth, hus, htake, _, h6⟩ := hO'
            obtain ⟨hsz, hcm, rfl⟩ := h6 rfl
            rw [cellsByte, Nat.mul_one] at hsz
            have hsl := bytesL_ok hks (denL_take len hus)
            have hlen : (ks.map UInt8.ofNat).length = len := by simpa using c1
            have hle : len ≤ cur.size := by
              have e1 := congrArg List.length hsl
              rw [List.length_take] at e1
              have e2 : (Lib.byteCells (ks.map UInt8.ofNat)).length = len := by rw [Lib.byteCells_length]; exact hlen
              rw [e2] at e1
              have e3 := congrArg List.length htake
              rw [List.length_take] at e3
              simp only [Array.length_toList] at e3
              omega
            obtain ⟨v1, hv1, cv1, _⟩ := hr.cell hn hb (i := 1) (s := .slice m 0 len (.rest 0)) rfl
            simp only [den, hbm, Option.some.injEq, capOf, Nat.sub_zero] at hv1
            subst hv1
            have := builderString_at b bm cm (ks.map UInt8.ofNat) w (by rw [hlen]; exact cv1) (by intro he; rw [he] at hlen; simp at hlen; omega) (by omega) cur.size (by simp only [World.shape?, hcur]) (by omega) (by omega) (fun j x hx => by
              rw [cell_of_row w bm j cur _ fr hcur]
              have h1 : (us.take len)[j]? = some (.int .u8 x.toNat) := by
                rw [hsl]; unfold Lib.byteCells; rw [List.getElem?_map, hx]; rfl
              have hj : j < len := by
                rcases Nat.lt_or_ge j len with h | h
                · exact h
                · rw [List.getElem?_eq_none (by omega)] at hx; cases hx
              rw [List.getElem?_take_of_lt hj, ← htake] at h1
              rw [← Array.getElem?_toList]
              rw [List.getElem?_take] at h1
              split at h1
              · exact h1
              · cases h1)
            refine this.mono ?_
            rintro en w' ⟨rfl, q1, q2, q3, q4, q5⟩
            refine ⟨_, List.mem_singleton.2 rfl, env, _, rfl, Env.le_refl _, hr.put hm hbm q1 q2 q3 (Nat.le_of_eq q4.symm) (fun k _ hk => q5 k hk) (fun o' ho' => by cases ho'), ?_⟩
            simp only [den, bytesOf]
        · cases h
      · cases h
    · cases h
  · cases h
end Go.Proofs.YtdkindollljlnabGreatDoor

namespace Go.Proofs.YtdkindollljlnabGreatDoor
open Go Go.RowKit Go.Shelf Go.Maps
variable [Known]

attribute [local go_sem] Oper.semAt_some


set_option maxRecDepth 100000 in
set_option maxHeartbeats 2000000 in
/-- maps.Keys of a map whose entries are known: its iterator gives each once. -/
theorem keysR_gives (F : Fence) (n : Nat) (h10 : F.fn 110) (hro : F.round = none) (hn : 1 ≤ n) (Bm b : Nat) (es : Array MapEntry) (hkey : ∀ e ∈ es.toList, ∃ s : ByteArray, e.key = .string s) (hborn : ∀ (i : Nat) (x : MapEntry), es[i]? = some x → x.born = i) (w : World) (hBm : Bm < w.heap.size)
    (hm : w.cell? ⟨Bm, 0, none⟩ = some (.map (some b))) (hown : w.heap[b]? = some (.map es es.size)) :
    SeqGives (α := ByteArray) F n Tryz.prog 110 #[.pointer (some ⟨Bm, 0, none⟩)] (fun s => .string s) (fun xs => (xs.map fun s => Value.string s).Perm (es.toList.map (·.key))) es.size w := by
  intro l J W hW hJ hY h0
  have hm' : W.cell? ⟨Bm, 0, none⟩ = some (.map (some b)) := (hW.cell (p := ⟨Bm, 0, none⟩) hBm).trans hm
  have hown' : W.heap[b]? = some (.map es es.size) := (hW.block b (Array.getElem?_eq_some_iff.1 hown).1).trans hown
  have hblt : b < W.heap.size := (Array.getElem?_eq_some_iff.1 hown').1
  have hnd := born_nodup hborn
  refine callsIn_of_wp Tryz.func110 rfl h10 ?_ hro
  simp only [Tryz.ntmps110, List.size_toArray, List.length_cons, List.length_nil, Nat.reduceAdd, Nat.reduceSub, Array.replicate_succ, Array.replicate_zero, List.push_toArray, List.append_toArray, List.nil_append, List.cons_append]
  have hrg := run_range_map (P := Tryz.prog) W 48 9 _ b es es.size Tryz.underlying48 hown'
  gi_wp2_with (first
    | (gi_at_range; refine wpListIn_op_val rfl (fun c h => by cases h) (fun c h => by cases h) (v := .pointer (some ⟨W.heap.size, 0, none⟩)) (w' := W.alloc (.mapIter (some b) es.size #[] es.size)) (by simp [execOp, go_sem, hrg]) ?_)
    | gi_in)
  gi_loopw [3] (fun _ wr => ∃ (seen : Array Nat) (ys : List MapEntry) (xs : List ByteArray), wr.heap[W.heap.size]? = some (.mapIter (some b) es.size seen es.size) ∧ wr.heap[b]? = some (.map es es.size) ∧ (ys ++ (leftOf es seen).toList).Perm es.toList ∧ (xs.map fun s => Value.string s) = ys.map (·.key) ∧ J xs wr)
    (fun _ wr => (leftOf es (wr.iterSeen W.heap.size)).size)
  case atStart =>
    refine ⟨#[], [], [], World.alloc_heap_new W _, ?_, ?_, rfl, ?_⟩
    · exact (Below.heap_alloc W _ b hblt).trans hown'
    · rw [left_none]; exact List.Perm.refl _
    · exact hJ [] W _ none h0 (World.grownBy_alloc W _ none) (fun r e => by cases e)
  case round =>
    obtain ⟨seen, ys, xs, hit, hb, hperm, hxy, hJs⟩ := hrel
    have hseen : wr.iterSeen W.heap.size = seen := by simp [World.iterSeen, hit]
    rcases next_known (P := Tryz.prog) _ hit hb hborn (by omega) with ⟨hl0, hnext⟩ | ⟨e, he, w2, hnext, hg2, hs2, hit2, hb2⟩
    · gi_wp2_with (first
        | (gi_at_next; refine wpListIn_next_run rfl _ rfl rfl hnext ?_)
        | gi_in)
      go_end0
      have : (leftOf es seen).toList = [] := by
        have : (leftOf es seen) = #[] := Array.eq_empty_of_size_eq_zero hl0
        rw [this]
      rw [this, List.append_nil] at hperm
      exact ⟨⟨_, rfl⟩, xs, by rw [hxy]; exact hperm.map _, hJs⟩
    · have heL := (mem_left he).1
      obtain ⟨kc, hek⟩ := hkey e heL
      have hlen : xs.length < es.size := by
        have hxl := congrArg List.length hxy
        rw [List.length_map, List.length_map] at hxl
        have := hperm.length_eq
        rw [List.length_append] at this
        have : 0 < (leftOf es seen).toList.length := List.length_pos_of_mem he
        have e2 : es.toList.length = es.size := Array.length_toList
        omega
      have hlt : W.heap.size < wr.heap.size := (Array.getElem?_eq_some_iff.1 hit).1
      have hJ2 : J xs w2 := hJ xs wr w2 (some W.heap.size) hJs hg2 (fun r q => by cases q; exact ⟨Nat.le_refl _, _, hit, rfl⟩)
      obtain ⟨fn, tmps, assign, body, hy, hR⟩ := hY xs kc _ hJ2 hlen
      clear hs2
      gi_wp2_with (first
        | (gi_at_next; refine wpListIn_next_run rfl _ rfl rfl hnext ?_)
        | (refine wpListIn_entry_run rfl _ rfl rfl (run_entry_at _ _ _ _ _ _ _ _ hit2 hb2 heL hnd) ?_; rw [hek])
        | gi_in)
      refine hR.mono ?_
      rintro e3 W3 ⟨rfl, hJ4, hk4⟩
      have hit4 := hk4.same _ _ hit2 rfl
      have hb4 := hk4.same _ _ hb2 rfl
      gi_wp2
      go_roundw
      case rel => exact ⟨_, _, _, hit4, hb4, left_step hnd he hperm, by rw [List.map_append, List.map_append, hxy]; simp [hek], hJ4⟩
      case measure => simp only [World.iterSeen, hit, hit4]; exact left_shrinks es seen e he



theorem collectR_known (w : World) (Bm b : Nat) (es : Array MapEntry) (hkey : ∀ e ∈ es.toList, ∃ s : ByteArray, e.key = .string s) (hborn : ∀ (i : Nat) (x : MapEntry), es[i]? = some x → x.born = i) (hsz : es.size ≤ 1099511627776) (hBm : Bm < w.heap.size)
    (hm : w.cell? ⟨Bm, 0, none⟩ = some (.map (some b))) (hown : w.heap[b]? = some (.map es es.size)) :
    Calls Tryz.prog 108 #[.func (.func 110) #[] #[.pointer (some ⟨Bm, 0, none⟩)]] w fun e w' => ∃ v ss, e = .returned v ∧ ((ss.map fun s => Value.string s).Perm (es.toList.map (·.key))) ∧ w'.ownsRow w.heap.size 9 1 v ss.length (ss.map Value.string) ∧ (v = .slice none 0 0 ↔ ss = []) ∧ Below w.heap.size w w' :=
  callsIn_wide.1 (collectS_in Fence.wide 3 trivial trivial rfl (Nat.le_refl _) _ _ trivial (enters_of Tryz.func110 (by kernel_rfl) rfl) (fun ss => (ss.map fun s => Value.string s).Perm (es.toList.map (·.key))) es.size (by unfold maxLen; omega) (by omega) w
    (keysR_gives Fence.wide 1 trivial rfl (Nat.le_refl _) Bm b es hkey hborn w hBm hm hown))

noncomputable def collectROut (args : List SV) (σ : SH) : Option Outs := match args with
  | [.fn (.func g) [] [.ptr x 0]] => (match σ.get x with
    | some (.cells [.map m] _ _) => (match σ.get m with
      | some (.map es) => (match strKeysS es with
        | some kl => @Bool.rec (fun _ => Option Outs) none (some ((perms kl).map fun p => rowOut 9 σ p.length (p.map SV.str))) (Nat.beq g 110 && Nat.ble es.length 4)
        | none => none)
      | _ => none)
    | _ => none)
  | _ => none
theorem collectROut_ok (b0 : Base) {args : List SV} {σ : SH} {outs : Outs} {env : Env} {w : World} {vs : List Value} (h : collectROut args σ = some outs) (hr : Rel Tryz.prog b0 env σ w) (ha : denL env args = some vs) :
    Calls Tryz.prog 108 vs.toArray w (Comes1 Tryz.prog b0 env outs) := by
  unfold collectROut at h
  split at h
  · rename_i g x
    split at h
    · rename_i m e1 x1 hx
      split at h
      · rename_i es hm
        split at h
        · rename_i kl hkl
          cases hc : (Nat.beq g 110 && Nat.ble es.length 4) with
          | false => rw [hc] at h; cases h
          | true =>
            rw [hc] at h
            replace h : some ((perms kl).map fun p => rowOut 9 σ p.length (p.map SV.str)) = some outs := h
            cases h
            rw [Bool.and_eq_true] at hc
            have hg := Nat.eq_of_beq_eq_true hc.1
            have hle4 := Nat.le_of_ble_eq_true hc.2
            subst hg
            obtain ⟨bx, cx, bm, ents, ks, hbx, hBm, hcell, hents, hkv, hkeys, hborn, hsz⟩ := hr.boxed hx hm
            have hks := strKeysS_ok hkl hkv
            have hkey : ∀ e ∈ ents.toList, ∃ s : ByteArray, e.key = .string s := fun e he => by
              have : e.key ∈ ks := hkeys ▸ List.mem_map.2 ⟨e, he, rfl⟩
              rw [hks] at this
              obtain ⟨l, _, he2⟩ := List.mem_map.1 this
              exact ⟨_, he2.symm⟩
            obtain rfl : vs = [.func (.func 110) #[] #[.pointer (some ⟨bx, 0, none⟩)]] := by
              obtain ⟨v, us', h1, h2, rfl⟩ := denL_cons ha
              simp only [denL] at h2; cases h2
              simp only [den, denL, hbx, Option.some.injEq] at h1
              subst h1; rfl
            refine (collectR_known w bx bm ents hkey hborn (by omega) hBm hcell hents).mono ?_
            rintro en w' ⟨v, ss, rfl, hperm, hrow, hnil, hb⟩
            rw [hkeys, hks] at hperm
            obtain ⟨qs, hq1, hq2⟩ := perm_lift _ _ _ hperm
            have hlen : ss.length = qs.length := by
              have := congrArg List.length hq2
              simpa using this.symm
            have hd := denL_strs (env := env) qs
            rw [hq2] at hd
            rw [hlen] at hrow
            have hnil' : v = .slice none 0 0 ↔ qs.length = 0 := by
              rw [hnil, ← hlen]; exact List.length_eq_zero_iff.symm
            obtain ⟨env', h1, h2, h3⟩ := rowOut_ok hr hb hrow hnil' hd (by kernel_rfl)
            exact ⟨_, List.mem_map.2 ⟨qs, mem_perms _ _ hq1, rfl⟩, env', v, rfl, h1, h2, h3⟩
        · cases h
      · cases h
    · cases h
  · cases h
end Go.Proofs.YtdkindollljlnabGreatDoor

namespace Go.Proofs.YtdkindollljlnabGreatDoor
open Go Go.RowKit Go.Shelf Go.Maps
variable [Known]

attribute [local go_sem] Oper.semAt_some
theorem next_knownD {P : Program} {w : World} (ty : TypeId) {r b : Nat} {seen : Array Nat} {es : Array MapEntry} {clock : Nat} (hr : w.heap[r]? = some (.mapIter (some b) clock seen clock)) (hb : w.heap[b]? = some (.map es clock)) (hlt : ∀ x ∈ es.toList, x.born < clock) (hne : b ≠ r) :
    ((leftOf es seen).size = 0 ∧ (Instr.next (.pointer (some ⟨r, 0, none⟩)) false ty).run P w = .ok (.tuple #[.bool false]) w) ∨
    ∃ e ∈ (leftOf es seen).toList, ∃ w2 : World, (Instr.next (.pointer (some ⟨r, 0, none⟩)) false ty).run P w = .ok (.tuple #[.bool true, e.key, e.val]) w2 ∧ w.grownBy w2 (some r) ∧ w2.heap.size = w.heap.size ∧ w2.heap[r]? = some (.mapIter (some b) clock (seen.push e.born) clock) ∧ w2.heap[b]? = some (.map es clock) := by
  have hrl := (Array.getElem?_eq_some_iff.1 hr).1
  rcases run_next_at (P := P) w ty r b clock clock seen es clock hr hb hlt (Nat.le_refl _) with ⟨h0, h1⟩ | ⟨e, he, w1, hw1, hrun⟩
  · exact .inl ⟨h0, h1⟩
  · refine .inr ⟨e, he, _, hrun, ?_⟩
    have hh : w1.heap = w.heap := by rcases hw1 with rfl | rfl <;> rfl
    have ho : w1.os = w.os ∧ w1.tape = w.tape ∧ w1.output = w.output := by rcases hw1 with rfl | rfl <;> exact ⟨rfl, rfl, rfl⟩
    refine ⟨⟨ho.1, ho.2.1, ho.2.2, by simp [ChangeMaps.setBlock, hh], fun k hk hkr => ?_⟩, by simp [ChangeMaps.setBlock, hh], by simp [ChangeMaps.setBlock, hh, hrl], ?_⟩
    · simp only [ChangeMaps.setBlock, hh]
      exact Array.getElem?_setIfInBounds_ne (fun q => hkr (by rw [q]))
    · simp only [ChangeMaps.setBlock, hh]
      rw [Array.getElem?_setIfInBounds_ne (fun q => hne q.symm)]
      exact hb

/-- What the map in a box holds. -/
theorem Rel.boxedD {b0 : Base} {env : Env} {σ : SH} {w : World} (hr : Rel Tryz.prog b0 env σ w) {x m : Nat} {e1 : TypeId} {x1 : Bool} {es : List (SV × SV)} (hx : σ.get x = some (.cells [.map m] e1 x1)) (hm : σ.get m = some (.dmap es)) :
    ∃ bx cx bm ents ks clock, env.blocks x = some (bx, cx) ∧ bx < w.heap.size ∧ w.cell? ⟨bx, 0, none⟩ = some (.map (some bm)) ∧ w.heap[bm]? = some (.map ents clock) ∧ denL env (es.map (·.1)) = some ks ∧ ents.toList.map (·.key) = ks ∧ ((∀ y ∈ ents.toList, y.born < clock) ∧ (ents.toList.map (·.born)).Nodup) ∧ ents.size = es.length := by
  obtain ⟨bx, cx, hbx, _, hOx⟩ := hr.obj x _ hx
  obtain ⟨bm, cm, hbm, _, hOm⟩ := hr.obj m _ hm
  obtain ⟨cur, t, fr, us, hcur, hth, hus, htake, _⟩ := hOx
  obtain ⟨ents, clock, kvs, vvs, hents, hkv, hvv, hkeys, hvals, hlt0, hnd⟩ := hOm
  obtain rfl : us = [.map (some bm)] := by
    obtain ⟨v, us', h1, h2, rfl⟩ := denL_cons hus
    obtain ⟨bm2, k2, h3, rfl⟩ := den_map h1
    rw [hbm] at h3; cases h3
    simp only [denL] at h2; cases h2; rfl
  have hBm : bx < w.heap.size := (Array.getElem?_eq_some_iff.1 hcur).1
  refine ⟨bx, cx, bm, ents, kvs, clock, hbx, hBm, ?_, hents, hkv, hkeys, ⟨hlt0, hnd⟩, ?_⟩
  · rw [cell_of_row w bx 0 cur t fr hcur]
    have := congrArg (·[0]?) htake
    simpa using this
  · have := denL_length hkv
    rw [← hkeys] at this
    simpa using this

set_option maxRecDepth 100000 in
set_option maxHeartbeats 2000000 in
/-- maps.Keys of a map whose entries are known: its iterator gives each once. -/
theorem keysD_gives (F : Fence) (n : Nat) (h10 : F.fn 110) (hro : F.round = none) (hn : 1 ≤ n) (Bm b : Nat) (es : Array MapEntry) (hkey : ∀ e ∈ es.toList, ∃ s : ByteArray, e.key = .string s) (clock : Nat) (hlt0 : ∀ x ∈ es.toList, x.born < clock) (hnd : (es.toList.map (·.born)).Nodup) (w : World) (hBm : Bm < w.heap.size)
    (hm : w.cell? ⟨Bm, 0, none⟩ = some (.map (some b))) (hown : w.heap[b]? = some (.map es clock)) :
    SeqGives (α := ByteArray) F n Tryz.prog 110 #[.pointer (some ⟨Bm, 0, none⟩)] (fun s => .string s) (fun xs => (xs.map fun s => Value.string s).Perm (es.toList.map (·.key))) es.size w := by
  intro l J W hW hJ hY h0
  have hm' : W.cell? ⟨Bm, 0, none⟩ = some (.map (some b)) := (hW.cell (p := ⟨Bm, 0, none⟩) hBm).trans hm
  have hown' : W.heap[b]? = some (.map es clock) := (hW.block b (Array.getElem?_eq_some_iff.1 hown).1).trans hown
  have hblt : b < W.heap.size := (Array.getElem?_eq_some_iff.1 hown').1
  refine callsIn_of_wp Tryz.func110 rfl h10 ?_ hro
  simp only [Tryz.ntmps110, List.size_toArray, List.length_cons, List.length_nil, Nat.reduceAdd, Nat.reduceSub, Array.replicate_succ, Array.replicate_zero, List.push_toArray, List.append_toArray, List.nil_append, List.cons_append]
  have hrg := run_range_map (P := Tryz.prog) W 48 9 _ b es clock Tryz.underlying48 hown'
  gi_wp2_with (first
    | (gi_at_range; refine wpListIn_op_val rfl (fun c h => by cases h) (fun c h => by cases h) (v := .pointer (some ⟨W.heap.size, 0, none⟩)) (w' := W.alloc (.mapIter (some b) clock #[] clock)) (by simp [execOp, go_sem, hrg]) ?_)
    | gi_in)
  gi_loopw [3] (fun _ wr => ∃ (seen : Array Nat) (ys : List MapEntry) (xs : List ByteArray), wr.heap[W.heap.size]? = some (.mapIter (some b) clock seen clock) ∧ wr.heap[b]? = some (.map es clock) ∧ (ys ++ (leftOf es seen).toList).Perm es.toList ∧ (xs.map fun s => Value.string s) = ys.map (·.key) ∧ J xs wr)
    (fun _ wr => (leftOf es (wr.iterSeen W.heap.size)).size)
  case atStart =>
    refine ⟨#[], [], [], World.alloc_heap_new W _, ?_, ?_, rfl, ?_⟩
    · exact (Below.heap_alloc W _ b hblt).trans hown'
    · rw [left_none]; exact List.Perm.refl _
    · exact hJ [] W _ none h0 (World.grownBy_alloc W _ none) (fun r e => by cases e)
  case round =>
    obtain ⟨seen, ys, xs, hit, hb, hperm, hxy, hJs⟩ := hrel
    have hseen : wr.iterSeen W.heap.size = seen := by simp [World.iterSeen, hit]
    rcases next_knownD (P := Tryz.prog) _ hit hb hlt0 (by omega) with ⟨hl0, hnext⟩ | ⟨e, he, w2, hnext, hg2, hs2, hit2, hb2⟩
    · gi_wp2_with (first
        | (gi_at_next; refine wpListIn_next_run rfl _ rfl rfl hnext ?_)
        | gi_in)
      go_end0
      have : (leftOf es seen).toList = [] := by
        have : (leftOf es seen) = #[] := Array.eq_empty_of_size_eq_zero hl0
        rw [this]
      rw [this, List.append_nil] at hperm
      exact ⟨⟨_, rfl⟩, xs, by rw [hxy]; exact hperm.map _, hJs⟩
    · have heL := (mem_left he).1
      obtain ⟨kc, hek⟩ := hkey e heL
      have hlen : xs.length < es.size := by
        have hxl := congrArg List.length hxy
        rw [List.length_map, List.length_map] at hxl
        have := hperm.length_eq
        rw [List.length_append] at this
        have : 0 < (leftOf es seen).toList.length := List.length_pos_of_mem he
        have e2 : es.toList.length = es.size := Array.length_toList
        omega
      have hlt : W.heap.size < wr.heap.size := (Array.getElem?_eq_some_iff.1 hit).1
      have hJ2 : J xs w2 := hJ xs wr w2 (some W.heap.size) hJs hg2 (fun r q => by cases q; exact ⟨Nat.le_refl _, _, hit, rfl⟩)
      obtain ⟨fn, tmps, assign, body, hy, hR⟩ := hY xs kc _ hJ2 hlen
      clear hs2
      gi_wp2_with (first
        | (gi_at_next; refine wpListIn_next_run rfl _ rfl rfl hnext ?_)
        | (refine wpListIn_entry_run rfl _ rfl rfl (run_entry_at _ _ _ _ _ _ _ _ hit2 hb2 heL hnd) ?_; rw [hek])
        | gi_in)
      refine hR.mono ?_
      rintro e3 W3 ⟨rfl, hJ4, hk4⟩
      have hit4 := hk4.same _ _ hit2 rfl
      have hb4 := hk4.same _ _ hb2 rfl
      gi_wp2
      go_roundw
      case rel => exact ⟨_, _, _, hit4, hb4, left_step hnd he hperm, by rw [List.map_append, List.map_append, hxy]; simp [hek], hJ4⟩
      case measure => simp only [World.iterSeen, hit, hit4]; exact left_shrinks es seen e he



theorem collectD_known (w : World) (Bm b : Nat) (es : Array MapEntry) (hkey : ∀ e ∈ es.toList, ∃ s : ByteArray, e.key = .string s) (clock : Nat) (hlt0 : ∀ x ∈ es.toList, x.born < clock) (hnd : (es.toList.map (·.born)).Nodup) (hsz : es.size ≤ 1099511627776) (hBm : Bm < w.heap.size)
    (hm : w.cell? ⟨Bm, 0, none⟩ = some (.map (some b))) (hown : w.heap[b]? = some (.map es clock)) :
    Calls Tryz.prog 108 #[.func (.func 110) #[] #[.pointer (some ⟨Bm, 0, none⟩)]] w fun e w' => ∃ v ss, e = .returned v ∧ ((ss.map fun s => Value.string s).Perm (es.toList.map (·.key))) ∧ w'.ownsRow w.heap.size 9 1 v ss.length (ss.map Value.string) ∧ (v = .slice none 0 0 ↔ ss = []) ∧ Below w.heap.size w w' :=
  callsIn_wide.1 (collectS_in Fence.wide 3 trivial trivial rfl (Nat.le_refl _) _ _ trivial (enters_of Tryz.func110 (by kernel_rfl) rfl) (fun ss => (ss.map fun s => Value.string s).Perm (es.toList.map (·.key))) es.size (by unfold maxLen; omega) (by omega) w
    (keysD_gives Fence.wide 1 trivial rfl (Nat.le_refl _) Bm b es hkey clock hlt0 hnd w hBm hm hown))

noncomputable def collectDOut (args : List SV) (σ : SH) : Option Outs := match args with
  | [.fn (.func g) [] [.ptr x 0]] => (match σ.get x with
    | some (.cells [.map m] _ _) => (match σ.get m with
      | some (.dmap es) => (match strKeysS es with
        | some kl => @Bool.rec (fun _ => Option Outs) none (some ((perms kl).map fun p => rowOut 9 σ p.length (p.map SV.str))) (Nat.beq g 110 && Nat.ble es.length 4)
        | none => none)
      | _ => none)
    | _ => none)
  | _ => none
theorem collectDOut_ok (b0 : Base) {args : List SV} {σ : SH} {outs : Outs} {env : Env} {w : World} {vs : List Value} (h : collectDOut args σ = some outs) (hr : Rel Tryz.prog b0 env σ w) (ha : denL env args = some vs) :
    Calls Tryz.prog 108 vs.toArray w (Comes1 Tryz.prog b0 env outs) := by
  unfold collectDOut at h
  split at h
  · rename_i g x
    split at h
    · rename_i m e1 x1 hx
      split at h
      · rename_i es hm
        split at h
        · rename_i kl hkl
          cases hc : (Nat.beq g 110 && Nat.ble es.length 4) with
          | false => rw [hc] at h; cases h
          | true =>
            rw [hc] at h
            replace h : some ((perms kl).map fun p => rowOut 9 σ p.length (p.map SV.str)) = some outs := h
            cases h
            rw [Bool.and_eq_true] at hc
            have hg := Nat.eq_of_beq_eq_true hc.1
            have hle4 := Nat.le_of_ble_eq_true hc.2
            subst hg
            obtain ⟨bx, cx, bm, ents, ks, clock, hbx, hBm, hcell, hents, hkv, hkeys, hbo, hsz⟩ := hr.boxedD hx hm
            have hks := strKeysS_ok hkl hkv
            have hkey : ∀ e ∈ ents.toList, ∃ s : ByteArray, e.key = .string s := fun e he => by
              have : e.key ∈ ks := hkeys ▸ List.mem_map.2 ⟨e, he, rfl⟩
              rw [hks] at this
              obtain ⟨l, _, he2⟩ := List.mem_map.1 this
              exact ⟨_, he2.symm⟩
            obtain rfl : vs = [.func (.func 110) #[] #[.pointer (some ⟨bx, 0, none⟩)]] := by
              obtain ⟨v, us', h1, h2, rfl⟩ := denL_cons ha
              simp only [denL] at h2; cases h2
              simp only [den, denL, hbx, Option.some.injEq] at h1
              subst h1; rfl
            refine (collectD_known w bx bm ents hkey clock hbo.1 hbo.2 (by omega) hBm hcell hents).mono ?_
            rintro en w' ⟨v, ss, rfl, hperm, hrow, hnil, hb⟩
            rw [hkeys, hks] at hperm
            obtain ⟨qs, hq1, hq2⟩ := perm_lift _ _ _ hperm
            have hlen : ss.length = qs.length := by
              have := congrArg List.length hq2
              simpa using this.symm
            have hd := denL_strs (env := env) qs
            rw [hq2] at hd
            rw [hlen] at hrow
            have hnil' : v = .slice none 0 0 ↔ qs.length = 0 := by
              rw [hnil, ← hlen]; exact List.length_eq_zero_iff.symm
            obtain ⟨env', h1, h2, h3⟩ := rowOut_ok hr hb hrow hnil' hd (by kernel_rfl)
            exact ⟨_, List.mem_map.2 ⟨qs, mem_perms _ _ hq1, rfl⟩, env', v, rfl, h1, h2, h3⟩
        · cases h
      · cases h
    · cases h
  · cases h
end Go.Proofs.YtdkindollljlnabGreatDoor

namespace Go.Proofs.YtdkindollljlnabGreatDoor
open Go.ChangeShapes Go.WideShapes Go.ChangeAt Go.RowKit Go.ChangeMaps

theorem okWide_one {P : Program} {w : World} {r : Reach} {b : Nat} {t : TypeId} {v : Value} (h : Cell.okWide P w r b t v) : v.oneCell' = true := by
  cases v <;> first | rfl | (exfalso; unfold Cell.okWide at h; split at h <;> first | (rename_i h1 h2; cases h2; done) | (unfold Cell.ok at h; revert h; split <;> simp_all))
def composed (P : Program) (t : TypeId) : Bool := match P.underlying t with
  | some (.struct _) | some (.array _ _) => true
  | _ => false
/-- A composed value's cells, one by one. -/
theorem agg_row {P : Program} {w : World} {r : Reach} {b : Nat} {t : TypeId} {n : Nat} {v : Value} (hc : (composed P t && Nat.beq (P.cellsOf t) n) = true) (h : Value.okWide P w r b t v) :
    ∃ l : List Value, v = .agg l.toArray ∧ l.length = n ∧ ∀ u ∈ l, u.oneCell' = true := by
  rw [Bool.and_eq_true] at hc
  obtain ⟨hc, hn⟩ := hc
  have hn := Nat.eq_of_beq_eq_true hn
  unfold composed at hc
  unfold Value.okWide at h
  have key : (∃ cs, v = .agg cs ∧ cs.size = P.cellsOf t ∧ Row.okWide P w r b t cs) → ∃ l : List Value, v = .agg l.toArray ∧ l.length = n ∧ ∀ u ∈ l, u.oneCell' = true := by
    rintro ⟨cs, rfl, hs, ts, _, _, hcell⟩
    refine ⟨cs.toList, by simp, by simpa [hn] using hs, fun u hu => ?_⟩
    obtain ⟨i, hi⟩ := List.getElem?_of_mem hu
    obtain ⟨_, _, hk⟩ := hcell i u (by simpa using hi)
    exact okWide_one hk
  cases hu : P.underlying t with
  | none => rw [hu] at hc; cases hc
  | some d => rw [hu] at hc h; cases d <;> first | exact key h | cases hc
/-- Is the last cell of so many and one a text? -/
def lastText (P : Program) (t : TypeId) (n : Nat) : Bool := match P.cellTypes P.depth t with
  | some ts => Nat.beq ts.length (n + 1) && (match ts[n]? with
    | some u => (match P.underlying u with
      | some .string => true
      | _ => false)
    | none => false)
  | none => false
theorem agg_text {P : Program} {w : World} {r : Reach} {b : Nat} {t : TypeId} {n : Nat} {v : Value} (hc : (composed P t && Nat.beq (P.cellsOf t) (n + 1)) = true) (hs : lastText P t n = true) (h : Value.okWide P w r b t v) :
    ∃ (l : List Value) (s : ByteArray), v = .agg (l ++ [Value.string s]).toArray ∧ l.length = n ∧ ∀ u ∈ l, u.oneCell' = true := by
  obtain ⟨m, rfl, hl, h1⟩ := agg_row hc h
  rw [Bool.and_eq_true] at hc
  have hcomp := hc.1
  unfold composed at hcomp
  unfold Value.okWide at h
  have key : Row.okWide P w r b t m.toArray → ∃ s, m[n]? = some (Value.string s) := by
    rintro ⟨ts, hts, _, hcell⟩
    unfold lastText at hs
    rw [hts] at hs
    simp only [Bool.and_eq_true] at hs
    obtain ⟨hlen, hu⟩ := hs
    have hlen := Nat.eq_of_beq_eq_true hlen
    have hn : n < m.length := by omega
    obtain ⟨u, hu1, hu2⟩ := hcell n m[n] (by simp [hn])
    rw [hlen, Nat.mod_eq_of_lt (Nat.lt_succ_self n)] at hu1
    rw [hu1] at hu
    simp only at hu
    unfold Cell.okWide at hu2
    rw [List.getElem?_eq_getElem hn]
    generalize m[n] = x at *
    cases hd : P.underlying u with
    | none => rw [hd] at hu; cases hu
    | some d =>
      rw [hd] at hu hu2
      cases d <;> first | (cases hu; done) | skip
      cases x <;> first | (exact ⟨_, rfl⟩) | (exfalso; simp only at hu2; unfold Cell.ok at hu2; rw [hd] at hu2; exact hu2)
  have hk : ∃ s, m[n]? = some (Value.string s) := by
    cases hu : P.underlying t with
    | none => rw [hu] at hcomp; cases hcomp
    | some d => rw [hu] at hcomp h; cases d <;> first | (cases hcomp; done) | (obtain ⟨cs, e, _, hr⟩ := h; cases e; exact key hr)
  obtain ⟨s, hms⟩ := hk
  refine ⟨m.take n, s, ?_, by simp; omega, fun u hu => h1 u (List.mem_of_mem_take hu)⟩
  have : m = m.take n ++ [Value.string s] := by
    have e := List.take_append_drop n m
    have d : m.drop n = [Value.string s] := by
      apply List.ext_getElem?
      intro i
      rw [List.getElem?_drop]
      cases i with
      | zero => simpa using hms
      | succ i => rw [List.getElem?_eq_none (by omega)]; simp
    rw [← d]; exact e.symm
  rw [← this]
theorem agg_two {P : Program} {w : World} {r : Reach} {b : Nat} {t : TypeId} {v : Value} (hc : (composed P t && Nat.beq (P.cellsOf t) 2) = true) (h : Value.okWide P w r b t v) :
    ∃ x y, v = .agg #[x, y] ∧ x.oneCell' = true ∧ y.oneCell' = true := by
  obtain ⟨l, rfl, hl, h1⟩ := agg_row hc h
  match l, hl with
  | [x, y], _ => exact ⟨x, y, rfl, h1 x (by simp), h1 y (by simp)⟩

theorem witness_shaped {H : Type} {enc : TypeId × Value → H} {C : Checked} {os : Os} {f : FuncId} {fn : Func} {s : OpenSpec} {conds : List PathCond} {apart : Bool} {laid : List (String × DataW Unit)} (modest : Bool) (w0 : World) (args : Array Value) (hos : w0.os = os)
    (hsh : (w0.forCall (fun _ _ => 0) ⟨#[], args, []⟩).Shaped C.prog) (hok : Input.okWideB C.prog (w0.forCall (fun _ _ => 0) ⟨#[], args, []⟩) f ⟨#[], args, []⟩ = true)
    (hrow : s.preRow enc C.prog fn conds apart laid (w0.forCall (fun _ _ => 0) ⟨#[], args, []⟩).memory args) :
    ∃ (w : World) (tape : Tape) (i : Input), w.os = os ∧ (w.forCall tape i).Shaped C.prog ∧ i.vars = [] ∧ Input.okWide C.prog (w.forCall tape i) .any w.heap.size f i ∧
      s.preRow enc C.prog fn conds apart laid (w.forCall tape i).memory i.args ∧ ({ modest := modest } : Assume).holds C.prog (lone (Frame.enter C.prog f i.args .normal) [] (w.forCall tape i)) :=
  ⟨w0, fun _ _ => 0, ⟨#[], args, []⟩, hos, hsh, (Input.okWide_of_okWideB (base := 0) hok).1, (Input.okWide_of_okWideB hok).2, hrow, by
    simp only [Assume.holds]
    exact ⟨by simp, by simp, fun _ => Modest.zero, by simp, by simp⟩⟩
end Go.Proofs.YtdkindollljlnabGreatDoor

namespace Go.Proofs.YtdkindollljlnabGreatDoor
open Go.ChangeShapes Go.WideShapes Go.ChangeAt Go.RowKit Go.ChangeMaps

def bytesType (P : Program) (t : TypeId) (n : Nat) : Bool := match P.cellTypes P.depth t with
  | some ts => Nat.beq ts.length n && ts.all fun u => match P.underlying u with
    | some (.int .u8) => true
    | _ => false
  | none => false
theorem okWide_u8 {P : Program} {w : World} {r : Reach} {b : Nat} {u : TypeId} {v : Value} (hu : P.underlying u = some (.int .u8)) (h : Cell.okWide P w r b u v) : ∃ n : Nat, n < 256 ∧ v = .int .u8 (n : Int) := by
  unfold Cell.okWide at h
  rw [hu] at h
  cases v <;> first | (exfalso; simp only at h; unfold Cell.ok at h; rw [hu] at h; exact h) | skip
  rename_i k z
  simp only at h
  unfold Cell.ok at h
  rw [hu] at h
  simp only at h
  obtain ⟨rfl, h⟩ := h
  have h2 : (0 : Int) ≤ z ∧ z ≤ 255 := by
    have hh : IntKind.u8.has z := h
    unfold IntKind.has at hh
    simp [IntKind.min, IntKind.max, IntKind.signed, IntKind.bits] at hh
    omega
  exact ⟨z.toNat, by omega, by congr 1; omega⟩
theorem agg_bytes {P : Program} {w : World} {r : Reach} {b : Nat} {t : TypeId} {n : Nat} {v : Value} (hc : (composed P t && Nat.beq (P.cellsOf t) n) = true) (hs : bytesType P t n = true) (h : Value.okWide P w r b t v) :
    ∃ ns : List Nat, v = .agg (ns.map fun (n : Nat) => Value.int .u8 (n : Int)).toArray ∧ ns.length = n ∧ ∀ x ∈ ns, x < 256 := by
  obtain ⟨m, rfl, hl, h1⟩ := agg_row hc h
  rw [Bool.and_eq_true] at hc
  have hcomp := hc.1
  unfold composed at hcomp
  unfold Value.okWide at h
  have key : Row.okWide P w r b t m.toArray → ∀ (i : Nat) (h : i < m.length), ∃ k : Nat, k < 256 ∧ m[i] = .int .u8 (k : Int) := by
    rintro ⟨ts, hts, _, hcell⟩ i hi
    unfold bytesType at hs
    rw [hts] at hs
    simp only [Bool.and_eq_true] at hs
    obtain ⟨hlen, hu⟩ := hs
    have hlen := Nat.eq_of_beq_eq_true hlen
    obtain ⟨u, hu1, hu2⟩ := hcell i m[i] (by simp [hi])
    rw [hlen, Nat.mod_eq_of_lt (by omega)] at hu1
    have hut := List.all_eq_true.1 hu u (List.mem_of_getElem? hu1)
    have : P.underlying u = some (.int .u8) := by
      split at hut
      · rename_i e; exact e
      · cases hut
    exact okWide_u8 this hu2
  have hk : ∀ (i : Nat) (h : i < m.length), ∃ k : Nat, k < 256 ∧ m[i] = .int .u8 (k : Int) := by
    cases hu : P.underlying t with
    | none => rw [hu] at hcomp; cases hcomp
    | some d => rw [hu] at hcomp h; cases d <;> first | (cases hcomp; done) | (obtain ⟨cs, e, _, hr⟩ := h; cases e; exact key hr)
  have all : ∀ (m : List Value), (∀ (i : Nat) (h : i < m.length), ∃ k : Nat, k < 256 ∧ m[i] = .int .u8 (k : Int)) → ∃ ns : List Nat, m = ns.map (fun (n : Nat) => Value.int .u8 (n : Int)) ∧ ∀ x ∈ ns, x < 256 := by
    intro m
    induction m with
    | nil => intro _; exact ⟨[], rfl, fun x h => by cases h⟩
    | cons a r ih =>
      intro h
      obtain ⟨k, hk, ea⟩ := h 0 (by simp)
      obtain ⟨ns, e, hns⟩ := ih fun i hi => h (i + 1) (by simp; omega)
      refine ⟨k :: ns, ?_, fun x hx => ?_⟩
      · rw [List.map_cons, ← e]; congr 1
      · rcases List.mem_cons.1 hx with rfl | hx
        · exact hk
        · exact hns x hx
  obtain ⟨ns, e, hns⟩ := all m hk
  exact ⟨ns, by rw [e], by rw [← hl, e, List.length_map], hns⟩
end Go.Proofs.YtdkindollljlnabGreatDoor

