/-
  slices.SortedFunc(maps.Keys(m), less) of a known map of ids, as the executor's summary: one outcome.

  strings.Index at whatever texts, by the shelf's contract, as the executor's summary.

  hexa.Hex: the digits of bytes. (strings.Builder's copyCheck, WriteByte, String at this seat, by the pattern of the shelf's.)

  hexa.Hex in the executor.

  strings.Builder's copyCheck and String, as the executor's summaries.

  What every row of this kind asks: a composed value's cells; a start for the witness at a world that lays the listed variables by a function.
-/
import Derived.Test.YtjnjcielihgagabGreatDoorJ6
import Derived.Test.YtjnjcielihgagabGreatDoorShelf
import Derived.Test.YtjnjcielihgagabGreatDoorChecked
import Derived.Lib.Strings
import Derived.Lib.Slices
import Derived.Lib.Walk
import Derived.Lib.Builder
import Derived.Lib.UnsafeStr
import Derived.WalkKit
import Derived.ProofKit
import Derived.Laws.Externs
import Derived.Test.YtjnjcielihgagabGreatDoorJ5
import Derived.OpenShut
import Derived.LaidMore
import Derived.HandedShaped
import Derived.Stop.LaidErr
import Derived.Deep.DeepHandedRow
import Derived.Deep.DeepWitnessRowRef
import Derived.Lib.LaidTab
import Derived.ChangeMaps5
import Derived.Carry
import Derived.Lay
import Derived.Lib.SmallJoins
set_option linter.unusedSimpArgs false
set_option linter.unusedVariables false
namespace Go.Proofs.YtjnjcielihgagabGreatDoor
open Go Go.RowKit Go.Shelf

noncomputable def idN (l : List SV) : Option (List Nat) := @List.rec SV (fun _ => Option (List Nat)) (some []) (fun x _ ih => match x with
  | .int .u8 (.ofNat n) => @Bool.rec (fun _ => Option (List Nat)) none (match ih with
    | some l => some (n :: l)
    | none => none) (Nat.blt n 256)
  | _ => none) l
noncomputable def cellsN (k : List Nat) : List SV := mapR (fun n => SV.int .u8 (Int.ofNat n)) k
theorem idN_ok {env : Env} : ∀ {l : List SV} {ks : List Nat} {us : List Value}, idN l = some ks → denL env l = some us → (∀ n ∈ ks, n < 256) ∧ us = ks.map (fun n => Value.int .u8 (n : Nat)) := by
  intro l
  induction l with
  | nil =>
    intro ks us h hd
    have h : some [] = some ks := h
    cases h
    simp only [denL] at hd; cases hd
    exact ⟨fun _ hn => (by cases hn), rfl⟩
  | cons x r ih =>
    intro ks us h hd
    replace h : (match (generalizing := false) x with
      | .int .u8 (.ofNat n) => @Bool.rec (fun _ => Option (List Nat)) none (match idN r with
        | some l => some (n :: l)
        | none => none) (Nat.blt n 256)
      | _ => none) = some ks := h
    split at h
    · rename_i n
      obtain ⟨v, us', h1, h2, rfl⟩ := denL_cons hd
      cases hb : Nat.blt n 256 with
      | false => rw [hb] at h; cases h
      | true =>
        rw [hb] at h
        have hlt : n < 256 := Nat.le_of_ble_eq_true hb
        cases hr : idN r with
        | none => rw [hr] at h; cases h
        | some m =>
          rw [hr] at h
          have h : some (n :: m) = some ks := h
          cases h
          obtain ⟨g1, rfl⟩ := ih hr h2
          simp only [den, Option.some.injEq] at h1; subst h1
          refine ⟨fun q hq => ?_, rfl⟩
          rcases List.mem_cons.1 hq with rfl | hq
          · exact hlt
          · exact g1 q hq
    · cases h
theorem cellsN_den (env : Env) (k : List Nat) : denL env (cellsN k) = some (k.map fun n => Value.int .u8 (n : Nat)) := by
  unfold cellsN
  rw [mapR_eq]
  induction k with
  | nil => rfl
  | cons n r ih => rw [List.map_cons, List.map_cons]; exact denL_mk (by simp only [den]; rfl) ih
/-- The ids of a map's entries. -/
noncomputable def keysN (es : List (SV × SV)) : Option (List (List Nat)) := @List.rec (SV × SV) (fun _ => Option (List (List Nat))) (some []) (fun x _ ih => match x.1 with
  | .agg l => (match idN l with
    | some k => @Bool.rec (fun _ => Option (List (List Nat))) none (match ih with
      | some m => some (k :: m)
      | none => none) (Nat.beq (lenR k) 20)
    | none => none)
  | _ => none) es
theorem keysN_ok {env : Env} : ∀ {es : List (SV × SV)} {kl : List (List Nat)} {ks : List Value}, keysN es = some kl → denL env (es.map (·.1)) = some ks → ∃ ids : List IdB, ids.map (·.l) = kl ∧ ks = ids.map (fun k => Value.agg (encB k).toArray) := by
  intro es
  induction es with
  | nil =>
    intro kl ks h hd
    have h : some [] = some kl := h
    cases h
    simp only [List.map_nil, denL] at hd; cases hd
    exact ⟨[], rfl, rfl⟩
  | cons x r ih =>
    intro kl ks h hd
    obtain ⟨a, u⟩ := x
    replace h : (match (generalizing := false) a with
      | .agg l => (match idN l with
        | some k => @Bool.rec (fun _ => Option (List (List Nat))) none (match keysN r with
          | some m => some (k :: m)
          | none => none) (Nat.beq (lenR k) 20)
        | none => none)
      | _ => none) = some kl := h
    split at h
    · rename_i l
      split at h
      · rename_i k hk
        cases hb : Nat.beq (lenR k) 20 with
        | false => rw [hb] at h; cases h
        | true =>
          rw [hb] at h
          have hlen := Nat.eq_of_beq_eq_true hb
          rw [lenR_eq] at hlen
          cases hr : keysN r with
          | none => rw [hr] at h; cases h
          | some m =>
            rw [hr] at h
            have h : some (k :: m) = some kl := h
            cases h
            obtain ⟨v, us, h1, h2, rfl⟩ := denL_cons (show denL env (SV.agg l :: r.map (·.1)) = some ks from hd)
            obtain ⟨vs, h3, rfl⟩ := den_agg h1
            obtain ⟨g1, rfl⟩ := idN_ok hk h3
            obtain ⟨ids, e1, e2⟩ := ih hr h2
            exact ⟨⟨k, hlen, g1⟩ :: ids, by rw [List.map_cons, e1], by rw [List.map_cons, e2]; rfl⟩
      · cases h
    · cases h
noncomputable def insN (x : List Nat) (l : List (List Nat)) : List (List Nat) := @List.rec (List Nat) (fun _ => List (List Nat)) [x] (fun y r ih => @Bool.rec (fun _ => List (List Nat)) (y :: ih) (x :: y :: r) (ltBytesR x y)) l
noncomputable def sortN (l : List (List Nat)) : List (List Nat) := @List.rec (List Nat) (fun _ => List (List Nat)) [] (fun x _ ih => insN x ih) l
theorem insN_perm (x : List Nat) : ∀ l, (insN x l).Perm (x :: l) := by
  intro l
  induction l with
  | nil => exact List.Perm.refl _
  | cons y r ih =>
    show (@Bool.rec (fun _ => List (List Nat)) (y :: insN x r) (x :: y :: r) (ltBytesR x y)).Perm (x :: y :: r)
    cases ltBytesR x y with
    | true => exact List.Perm.refl _
    | false => exact (ih.cons y).trans (List.Perm.swap x y r)
theorem sortN_perm : ∀ l, (sortN l).Perm l := by
  intro l
  induction l with
  | nil => exact List.Perm.refl _
  | cons x r ih => exact (insN_perm x (sortN r)).trans (ih.cons x)
/-- Each less than the next one. -/
noncomputable def strictN (l : List (List Nat)) : Bool := @List.rec (List Nat) (fun _ => Bool) true (fun x r ih => @List.rec (List Nat) (fun _ => Bool) true (fun y _ _ => @Bool.rec (fun _ => Bool) false ih (ltBytesR x y)) r) l
theorem strictN_ok : ∀ (l : List (List Nat)), strictN l = true → l.Pairwise (fun x y => ltBytes x y = true) := by
  intro l
  induction l with
  | nil => intro _; exact List.Pairwise.nil
  | cons x r ih =>
    intro h
    cases r with
    | nil => exact List.pairwise_singleton _ _
    | cons y s =>
      have h : @Bool.rec (fun _ => Bool) false (strictN (y :: s)) (ltBytesR x y) = true := h
      cases hb : ltBytesR x y with
      | false => rw [hb] at h; cases h
      | true =>
        rw [hb] at h
        have hr := ih h
        have hxy : ltBytes x y = true := by rw [← ltBytesR_eq]; exact hb
        refine List.pairwise_cons.2 ⟨fun z hz => ?_, hr⟩
        rcases List.mem_cons.1 hz with rfl | hz
        · exact hxy
        · exact ltB_trans _ _ _ hxy ((List.pairwise_cons.1 hr).1 z hz)

noncomputable def sortOut (args : List SV) (σ : SH) : Option Outs := match args with
  | [.fn (.func g) [] [.ptr x 0], .fn (.func g2) [] []] => (match σ.get x with
    | some (.cells [.map m] _ _) => (match σ.get m with
      | some (.map es) => (match keysN es with
        | some (k :: kl) => (fun sl => @Bool.rec (fun _ => Option Outs) none (some [rowOut 28 σ (lenR sl) (sl.flatMap cellsN)]) (strictN sl && (Nat.beq g 22 && (Nat.beq g2 12 && Nat.ble (lenR es) 1000)))) (sortN (k :: kl))
        | _ => none)
      | _ => none)
    | _ => none)
  | _ => none
theorem sortOut_ok (b0 : Base) {args : List SV} {σ : SH} {outs : Outs} {env : Env} {w : World} {vs : List Value} (h : sortOut args σ = some outs) (hr : Rel Tryz.prog b0 env σ w) (ha : denL env args = some vs) :
    Calls Tryz.prog 10 vs.toArray w (Comes1 Tryz.prog b0 env outs) := by
  unfold sortOut at h
  split at h
  · rename_i g x g2
    split at h
    · rename_i m e1 x1 hx
      split at h
      · rename_i es hm
        split at h
        · rename_i k kl hkl
          simp only at h
          cases hc : (strictN (sortN (k :: kl)) && (Nat.beq g 22 && (Nat.beq g2 12 && Nat.ble (lenR es) 1000))) with
          | false => rw [hc] at h; cases h
          | true =>
            rw [hc] at h
            replace h : some [rowOut 28 σ (lenR (sortN (k :: kl))) ((sortN (k :: kl)).flatMap cellsN)] = some outs := h
            cases h
            simp only [Bool.and_eq_true] at hc
            obtain ⟨c1, c2, c3, c4⟩ := hc
            obtain rfl := Nat.eq_of_beq_eq_true c2
            obtain rfl := Nat.eq_of_beq_eq_true c3
            have c4 := Nat.le_of_ble_eq_true c4
            rw [lenR_eq] at c4
            obtain ⟨bx, cx, bm, ents, ks, hbx, hBm, hcell, hents, hkv, hkeys, hborn, hsz⟩ := hr.boxed hx hm
            obtain ⟨ids, i1, i2⟩ := keysN_ok hkl hkv
            obtain ⟨sids, s1, s2⟩ := perm_lift (fun k : IdB => k.l) ids (sortN (k :: kl)) (by rw [i1]; exact sortN_perm _)
            obtain rfl : vs = [.func (.func 22) #[] #[.pointer (some ⟨bx, 0, none⟩)], .func (.func 12) #[] #[]] := by
              obtain ⟨v, us', h1, h2, rfl⟩ := denL_cons ha
              obtain ⟨v2, us2, h3, h4, rfl⟩ := denL_cons h2
              simp only [denL] at h4; cases h4
              simp only [den, denL, hbx, Option.some.injEq] at h1 h3
              subst h1; subst h3; rfl
            have hne : sids ≠ [] := fun e => by
              rw [e] at s2
              have := congrArg List.length s2
              rw [(sortN_perm _).length_eq] at this
              simp at this
            have hst : sids.Pairwise (fun x y => ltBytes x.l y.l = true) := by
              have := strictN_ok _ c1
              rw [← s2] at this
              exact List.pairwise_map.1 this
            refine (sortedI_known w bx bm ents ids sids (by rw [hkeys, i2]) hborn (by omega) hBm hcell hents hst s1 hne).mono ?_
            rintro en w' ⟨v, rfl, hrow, hv, hb⟩
            have hd : denL env ((sortN (k :: kl)).flatMap cellsN) = some (sids.flatMap encB) := by
              rw [← s2]
              have key : ∀ l : List IdB, denL env ((l.map fun k => k.l).flatMap cellsN) = some (l.flatMap encB) := by
                intro l
                induction l with
                | nil => rfl
                | cons x r ih =>
                  simp only [List.map_cons, List.flatMap_cons]
                  exact denL_append (cellsN_den env x.l) ih
              exact key sids
            have hlen : sids.length = lenR (sortN (k :: kl)) := by rw [lenR_eq, ← s2, List.length_map]
            rw [hlen] at hrow
            have hnil' : v = .slice none 0 0 ↔ lenR (sortN (k :: kl)) = 0 := by
              constructor
              · intro e; exact absurd e hv
              · intro e; rw [← hlen] at e; exact absurd (List.length_eq_zero_iff.1 e) hne
            obtain ⟨env', h1, h2, h3⟩ := rowOut_ok hr hb hrow hnil' hd (by kernel_rfl)
            exact ⟨_, List.mem_singleton.2 rfl, env', v, rfl, h1, h2, h3⟩
        · cases h
      · cases h
    · cases h
  · cases h
end Go.Proofs.YtjnjcielihgagabGreatDoor

namespace Go.Proofs.YtjnjcielihgagabGreatDoor
open Go Go.RowKit

def preN : List Nat → List Nat → Bool
  | [], _ => true
  | a :: x, b :: y => Nat.beq (Nat.mod a 256) (Nat.mod b 256) && preN x y
  | _ :: _, [] => false
def subN (m : List Nat) : List Nat → Nat → Option Nat
  | [], i => bif preN m [] then some i else none
  | b :: r, i => bif preN m (b :: r) then some i else subN m r (i + 1)
def subS (l m : List Nat) : Int := match subN m l 0 with
  | some i => (i : Nat)
  | none => -1
theorem preN_ok : ∀ (m l : List Nat), (m.map UInt8.ofNat).isPrefixOf (l.map UInt8.ofNat) = preN m l := by
  intro m
  induction m with
  | nil => intro l; simp [preN]
  | cons a x ih =>
    intro l
    cases l with
    | nil => rfl
    | cons b y =>
      simp only [List.map_cons, List.isPrefixOf_cons_cons, preN, ih, u8_eq]
      congr 1
      rw [Bool.eq_iff_iff, beq_iff_eq, Nat.beq_eq]
      rfl
theorem subN_ok (m : List Nat) : ∀ (l : List Nat) (i : Nat), (match subN m l i with
    | some k => Lib.index (l.map UInt8.ofNat) (m.map UInt8.ofNat) + i = (k : Nat) ∧ 0 ≤ Lib.index (l.map UInt8.ofNat) (m.map UInt8.ofNat)
    | none => Lib.index (l.map UInt8.ofNat) (m.map UInt8.ofNat) = -1) := by
  intro l
  induction l with
  | nil =>
    intro i
    cases m with
    | nil => simp [subN, preN, Lib.index]
    | cons a x => simp [subN, preN, Lib.index]
  | cons b r ih =>
    intro i
    have hp := preN_ok m (b :: r)
    rw [List.map_cons] at hp ⊢
    unfold Lib.index
    rw [hp]
    simp only [subN]
    cases h : preN m (b :: r) with
    | true => simp
    | false =>
      have hi := ih (i + 1)
      simp only [cond_false, Bool.false_eq_true, if_false]
      cases hk : subN m r (i + 1) with
      | some k =>
        rw [hk] at hi
        obtain ⟨h1, h2⟩ := hi
        have hne : ¬ ((Lib.index (r.map UInt8.ofNat) (m.map UInt8.ofNat) == -1) = true) := by
          intro he
          have := eq_of_beq he
          omega
        simp only [hne, Bool.false_eq_true, if_false]
        omega
      | none =>
        rw [hk] at hi
        simp only at hi
        simp [hi]
theorem subS_ok (l m : List Nat) : Lib.index (bytesOf l).data.toList (bytesOf m).data.toList = subS l m := by
  rw [bytesOf_list, bytesOf_list]
  have h := subN_ok m l 0
  unfold subS
  cases hk : subN m l 0 with
  | some k => rw [hk] at h; have := h.1; simp only; omega
  | none => rw [hk] at h; exact h

noncomputable def subOut (args : List SV) (σ : SH) : Option Outs := match args with
  | [.str l, .str m] => @Bool.rec (fun _ => Option Outs) none (some [(.int .i64 (subS l m), σ)]) (Nat.blt l.length 4294967281)
  | _ => none
theorem subOut_ok (b : Base) {args : List SV} {σ : SH} {outs : Outs} {env : Env} {w : World} {vs : List Value} (h : subOut args σ = some outs) (hr : Rel Tryz.prog b env σ w) (ha : denL env args = some vs) :
    Calls Tryz.prog 163 vs.toArray w (Comes1 Tryz.prog b env outs) := by
  unfold subOut at h
  split at h
  · rename_i l m
    cases hc : Nat.blt l.length 4294967281 with
    | false => rw [hc] at h; cases h
    | true =>
      rw [hc] at h
      replace h : some [(SV.int .i64 (subS l m), σ)] = some outs := h
      cases h
      have hc : l.length < 4294967281 := Nat.le_of_ble_eq_true hc
      obtain ⟨v, us, h1, h2, rfl⟩ := denL_cons ha
      obtain ⟨v2, us2, h3, h4, rfl⟩ := denL_cons h2
      simp only [den, Option.some.injEq] at h1 h3; subst h1; subst h3
      simp only [denL] at h4; cases h4
      obtain ⟨m0, hm0⟩ := hr.maxLen 0 (by kernel_rfl)
      refine (Tryz.stringslite_Index (bytesOf l) (bytesOf m) m0 w (by rw [bytesOf_size]; exact hc) hm0).mono ?_
      rintro e w' ⟨rfl, rfl⟩
      refine ⟨_, List.mem_singleton.2 rfl, env, _, rfl, Env.le_refl _, hr, ?_⟩
      simp only [den]
      rw [← subS_ok]
  · cases h
end Go.Proofs.YtjnjcielihgagabGreatDoor

namespace Go.Proofs.YtjnjcielihgagabGreatDoor
open Go Go.RowKit

theorem sizeBuilder : (Tryz.prog.info? 128).map (·.size) = some 2 := by kernel_rfl
theorem liesBuilder : liesAt Tryz.prog Tryz.prog.depth 128 (2 / Tryz.prog.cellsOf 128) 0 128 1 = true := by kernel_rfl
theorem infoByte : (Tryz.prog.info? 5).map (fun i => (i.zero, i.size, i.bytes)) = some (some (.int .u8 0), 1, 1) := by kernel_rfl
theorem cellsByte : Tryz.prog.cellsOf 5 = 1 := by kernel_rfl

set_option maxHeartbeats 1000000 in
set_option maxRecDepth 100000 in
theorem copyCheck_used (b : Nat) (w : World) (h0 : w.cell? ⟨b, 0, none⟩ = some (.pointer (some ⟨b, 0, none⟩))) :
    Calls Tryz.prog 89 #[.pointer (some ⟨b, 0, none⟩)] w fun e w' => e = .returned (.tuple #[]) ∧ w' = w := by
  obtain ⟨j, hj, _⟩ := Option.map_eq_some_iff.1 sizeBuilder
  go_enter Tryz.func89, Tryz.ntmps89
  go_wp2
  rw [Lib.run_neq_ptr_same w _ Tryz.underlying126 hj]
  go_wp2
  go_end0
  exact ⟨rfl, rfl⟩

set_option maxHeartbeats 1000000 in
set_option maxRecDepth 100000 in
theorem copyCheck_fresh (b : Nat) (w : World) (h0 : w.cell? ⟨b, 0, none⟩ = some (.pointer none)) (hsh : w.shape? b = some (128, 2)) (hfz : w.frozen? ⟨b, 0, none⟩ = false) :
    Calls Tryz.prog 89 #[.pointer (some ⟨b, 0, none⟩)] w fun e w' => e = .returned (.tuple #[]) ∧ w' = w.setCell ⟨b, 0, none⟩ (.pointer (some ⟨b, 0, none⟩)) := by
  obtain ⟨j, hj, hjs⟩ := Option.map_eq_some_iff.1 sizeBuilder
  go_enter Tryz.func89, Tryz.ntmps89
  go_wp2
  rw [Lib.run_to_unsafe w ⟨b, 0, none⟩ Tryz.underlying126 Tryz.underlying230 hj (by rw [hjs]; decide) hsh (Nat.zero_lt_succ 1)]
  simp only [Result.andThen]
  rw [Oper.upon_value]
  go_wp2
  rw [run_callFunc_extern Tryz.func133 (by kernel_rfl) (by kernel_rfl) (by kernel_rfl) (e := Extern.AbiNoEscape.same) (by kernel_rfl)]
  rw [Lib.run_noEscape]
  simp only [Result.andThen]
  rw [Oper.upon_value]
  go_wp2
  rw [Lib.run_from_unsafe w ⟨b, 0, none⟩ Tryz.underlying230 Tryz.underlying126 hj hsh liesBuilder]
  simp only [Result.andThen]
  rw [Oper.upon_value]
  go_wp2
  go_end0
  exact ⟨rfl, rfl⟩

theorem copyCheck_any (B b : Nat) (bs : List Value) (w : World) (h : Lib.IsBuilder 128 5 B b bs w) :
    Calls Tryz.prog 89 #[.pointer (some ⟨b, 0, none⟩)] w fun e w' => e = .returned (.tuple #[]) ∧ (Lib.BuilderAt 128 5 B b (.pointer (some ⟨b, 0, none⟩)) bs w' ∧ Below B w w') := by
  rcases h with h | h
  · refine (copyCheck_fresh b w h.cell0 h.shape h.frozen0).mono ?_
    rintro e w' ⟨rfl, rfl⟩
    exact ⟨rfl, h.used _, (Below.refl B w).setCell (p := ⟨b, 0, none⟩) h.1 _⟩
  · refine (copyCheck_used b w h.cell0).mono ?_
    rintro e w' ⟨rfl, rfl⟩
    exact ⟨rfl, h, Below.refl B _⟩

set_option maxHeartbeats 2000000 in
set_option maxRecDepth 100000 in
theorem writeByte_any (B b : Nat) (bs : List Value) (c : Int) (w : World) (h : Lib.IsBuilder 128 5 B b bs w) (hlen : bs.length + 1 ≤ 140737488355328) (hBw : B ≤ w.heap.size) :
    Calls Tryz.prog 90 #[.pointer (some ⟨b, 0, none⟩), .int .u8 c] w fun e w' => e = .returned .nilIface ∧ (Lib.BuilderAt 128 5 B b (.pointer (some ⟨b, 0, none⟩)) (bs ++ [.int .u8 c]) w' ∧ Below B w w') := by
  obtain ⟨i0, hi, hz0, hz1, hz2⟩ := info_parts infoByte
  go_enter Tryz.func90, Tryz.ntmps90
  go_wp2_with (go_at_call 89; refine (copyCheck_any B b bs _ h).mono ?_)
  rintro e w1 ⟨rfl, h1, hb1⟩
  obtain ⟨hB, v, hbk, hown, hne⟩ := h1
  have c0 : w1.cell? ⟨b, 0, none⟩ = some (.pointer (some ⟨b, 0, none⟩)) := by rw [Lib.cell_of_heap hbk]; rfl
  have c1 : w1.cell? ⟨b, 1, none⟩ = some v := by rw [Lib.cell_of_heap hbk]; rfl
  go_wp2_with (at_builtin; refine wpList_append_own _ rfl _ _ 24 rfl B 5 i0 (.int .u8 0) 1 1 Tryz.underlying24 hi hz0 hz1 hz2 rfl (by decide) _ _ _ rfl (hown.alloc _) ⟨w1.heap.size, 0, none⟩ 1 1 [.int .u8 c] rfl rfl ?c1 ?c2 ?c3 ?c4 ?c5 ?_)
  case c1 =>
    intro j u hj
    match j, hj with
    | 0, hj => simp at hj; subst hj; simp [Addr.add]
  case c2 => intro u hu; simp at hu; subst hu; rfl
  case c3 => unfold maxLen; omega
  case c4 => omega
  case c5 => have := hb1.size; simp; omega
  intro v' w2 hown' hgrow _
  have hlt : b < w1.heap.size := by
    rcases Nat.lt_or_ge b w1.heap.size with h' | h'
    · exact h'
    · simp [Array.getElem?_eq_none h'] at hbk
  have hb2 : w2.heap[b]? = some (.cells #[.pointer (some ⟨b, 0, none⟩), v] 128 (0, 0)) := by
    rw [hgrow.block b (by simp; omega) (fun e => hne e.symm), Lib.alloc_old w1 _ b hlt]
    exact hbk
  have d0 : w2.cell? ⟨b, 0, none⟩ = some (.pointer (some ⟨b, 0, none⟩)) := by rw [Lib.cell_of_heap hb2]; rfl
  have d1 : w2.cell? ⟨b, 1, none⟩ = some v := by rw [Lib.cell_of_heap hb2]; rfl
  have f1 : w2.frozen? ⟨b, 1, none⟩ = false := Lib.frozen_of_heap hb2 1
  obtain ⟨g, cap, rfl⟩ : ∃ g cap, v' = .slice (some ⟨g, 0, none⟩) (bs.length + 1) cap := by
    rcases hown'.2 with ⟨_, h0⟩ | ⟨g, cap, cur, hv, _⟩
    · omega
    · exact ⟨g, cap, hv⟩
  go_wp2
  go_ret
  refine ⟨rfl, ?_, ?_⟩
  · exact Lib.BuilderAt.put (T := 128) (e := 5) hB hb2 (bs' := bs ++ [.int .u8 c]) (by simpa using hown') (by decide)
  · exact ((hb1.alloc (by have := hb1.size; omega) _).grown hgrow (by have := hb1.size; simp; omega) (fun k hk => (hown.lt k hk).1)).setCell (p := ⟨b, 1, none⟩) hB _

set_option maxHeartbeats 1000000 in
set_option maxRecDepth 100000 in
theorem builderString_any (B b : Nat) (l : List UInt8) (w : World) (h : Lib.IsBuilder 128 5 B b (Lib.byteCells l) w) (h0 : l ≠ []) :
    Calls Tryz.prog 54 #[.pointer (some ⟨b, 0, none⟩)] w fun e w' => e = .returned (.string ⟨l.toArray⟩) ∧ Below B w w' := by
  obtain ⟨p, hB, v, hbk, hown, hne⟩ : ∃ p, Lib.BuilderAt 128 5 B b p (Lib.byteCells l) w := by
    rcases h with h | h
    · exact ⟨_, h⟩
    · exact ⟨_, h⟩
  have hl0 : l.length ≠ 0 := by simpa using h0
  rw [Lib.byteCells_length] at hown
  obtain ⟨g, cap, cur, rfl, hbg, hg, hnc, hcm, hcs, htake⟩ : ∃ g cap cur, v = .slice (some ⟨g, 0, none⟩) l.length cap ∧ B ≤ g ∧ w.heap[g]? = some (.cells cur 5 (0, 0)) ∧ l.length ≤ cap ∧ cap ≤ maxLen ∧ cur.size = cap * 1 ∧ cur.toList.take (l.length * 1) = Lib.byteCells l := by
    rcases hown.2 with ⟨_, hz⟩ | ⟨g, cap, cur, hv, r⟩
    · exact absurd hz hl0
    · exact ⟨g, cap, cur, hv, r⟩
  have c1 : w.drew.cell? ⟨b, 1, none⟩ = some (.slice (some ⟨g, 0, none⟩) l.length cap) := by
    have : w.drew.heap[b]? = some (.cells #[p, .slice (some ⟨g, 0, none⟩) l.length cap] 128 (0, 0)) := hbk
    rw [Lib.cell_of_heap this]; rfl
  have hSD : (Builtin.unsafeSliceData_ #[24] 177 #[.slice (some ⟨g, 0, none⟩) l.length cap]).run Tryz.prog w.drew = .ok (.pointer (some ⟨g, 0, none⟩)) w.drew :=
    Lib.run_unsafeSliceData_row _ _ _ _ _ _ (by omega)
  have hUS : (Builtin.unsafeString_ #[177, 3] 9 #[.pointer (some ⟨g, 0, none⟩), .int .i64 l.length]).run Tryz.prog w.drew = .ok (.string ⟨l.toArray⟩) (w.drew.freeze ⟨g, 0, none⟩ l.length) := by
    refine Lib.run_unsafeString_row w.drew 177 3 9 5 Tryz.underlying177 cellsByte g cur.size (by have hg' : w.drew.heap[g]? = some (.cells cur 5 (0, 0)) := hg; simp [World.shape?, hg']) l h0 (by omega) (by unfold maxLen at hcm; omega) ?_
    intro j x hx
    have := hown.cells (g := g) rfl j (.int .u8 x.toNat) (by simp [Lib.byteCells, hx])
    exact this
  go_enter Tryz.func54, Tryz.ntmps54
  go_wp2
  go_region
  all_goals (go_wp2; go_ret; exact ⟨rfl, Lib.below_freeze (Below.drew (Below.refl B w)) (p := ⟨g, 0, none⟩) hbg _⟩)

def hexDigit (n : Nat) : UInt8 := if n < 10 then UInt8.ofNat (48 + n) else UInt8.ofNat (87 + n)
def hexOf : List UInt8 → List UInt8
  | [] => []
  | c :: r => hexDigit (c.toNat / 16) :: hexDigit (c.toNat % 16) :: hexOf r
theorem hexOf_append (a b : List UInt8) : hexOf (a ++ b) = hexOf a ++ hexOf b := by
  induction a with
  | nil => rfl
  | cons x r ih => simp [hexOf, ih]
theorem hexOf_length (a : List UInt8) : (hexOf a).length = 2 * a.length := by
  induction a with
  | nil => rfl
  | cons x r ih => simp [hexOf, ih]; omega

theorem digitAt : ∀ n, (h : n < 16) → (ByteArray.mk #[48, 49, 50, 51, 52, 53, 54, 55, 56, 57, 97, 98, 99, 100, 101, 102])[n]'h = hexDigit n := by decide

set_option maxHeartbeats 2000000 in
set_option maxRecDepth 100000 in
theorem hex_any (l : List UInt8) (g off cap : Nat) (w : World) (hg : g < w.heap.size) (hcells : ∀ j x, l[j]? = some x → w.cell? ⟨g, off + j, none⟩ = some (.int .u8 x.toNat)) (hne : l ≠ []) (hlen : l.length ≤ 1000000) :
    Calls Tryz.prog 52 #[.slice (some ⟨g, off, none⟩) l.length cap] w fun e w' => e = .returned (.string ⟨(hexOf l).toArray⟩) ∧ Below w.heap.size w w' := by
  go_enter Tryz.func52, Tryz.ntmps52
  go_wp2_with fail
  go_loopw [5, 8] (fun _ i wr => ∃ k : Nat, k ≤ l.length ∧ i = .int .i64 k ∧ Lib.IsBuilder 128 5 w.heap.size w.heap.size (Lib.byteCells (hexOf (l.take k))) wr ∧ Below w.heap.size w wr) (fun _ i _ => l.length - (intOf i).toNat)
  case atStart => exact ⟨0, Nat.zero_le _, rfl, Lib.fresh_isBuilder _ _ w, (Below.refl _ w).alloc (Nat.le_refl _) _⟩
  case round =>
    obtain ⟨k, hk, rfl, hB, hb⟩ := hrel
    by_cases hlt : k < l.length
    · obtain ⟨x, hx⟩ : ∃ x, l[k]? = some x := ⟨_, List.getElem?_eq_getElem hlt⟩
      have hc : wr.cell? ⟨g, off + k, none⟩ = some (.int .u8 x.toNat) := (hb.cell (p := ⟨g, off + k, none⟩) hg).trans (hcells k x hx)
      have hkl : (k : Int) < l.length := by omega
      have hx256 : x.toNat < 256 := x.toNat_lt
      have h16 : (0 : Int) ≤ (x.toNat : Int) / 16 ∧ (x.toNat : Int) / 16 < 16 := by omega
      have hq := digitAt (x.toNat / 16) (by omega)
      have h16' : (0 : Int) ≤ (x.toNat : Int) % 16 ∧ (x.toNat : Int) % 16 < 16 := by omega
      have hq' := digitAt (x.toNat % 16) (by omega)
      have hk0 : (Lib.byteCells (hexOf (l.take k)) ++ [Value.int .u8 (hexDigit (x.toNat / 16)).toNat]) ++ [Value.int .u8 (hexDigit (x.toNat % 16)).toNat] = Lib.byteCells (hexOf (l.take (k + 1))) := by
        rw [List.take_add_one, hx, hexOf_append]; simp [hexOf, Lib.byteCells]
      have hlen1 : (Lib.byteCells (hexOf (l.take k))).length + 1 ≤ 140737488355328 := by rw [Lib.byteCells_length, hexOf_length, List.length_take]; omega
      have hlen2 : (Lib.byteCells (hexOf (l.take k)) ++ [Value.int .u8 (hexDigit (x.toNat / 16)).toNat]).length + 1 ≤ 140737488355328 := by rw [List.length_append, Lib.byteCells_length, hexOf_length, List.length_take]; simp; omega
      go_wp2_with (go_at_call 90; first
        | (refine (writeByte_any w.heap.size w.heap.size _ _ _ hB hlen1 hb.size).mono ?_; rintro e w1 ⟨rfl, h1, hb1⟩)
        | (refine (writeByte_any w.heap.size w.heap.size _ _ _ (.inr h1) hlen2 (Nat.le_trans hb.size hb1.size)).mono ?_; rintro e w2 ⟨rfl, h2, hb2⟩))
      rw [hk0] at h2
      go_roundw
      case rel => exact ⟨k + 1, by omega, by simp, .inr h2, (hb.trans hb1).trans hb2⟩
      case measure => simp [intOf]; omega
    · have hke : k = l.length := by omega
      subst hke
      rw [List.take_length] at hB
      have hnlt : ¬ ((l.length : Int) < l.length) := by omega
      have hne2 : hexOf l ≠ [] := by
        cases l with
        | nil => exact absurd rfl hne
        | cons y r => simp [hexOf]
      go_wp2_with (go_at_call 54; refine (builderString_any w.heap.size w.heap.size _ _ hB hne2).mono ?_; rintro e w3 ⟨rfl, hb3⟩)
      go_ret
      exact ⟨rfl, hb.trans hb3⟩
end Go.Proofs.YtjnjcielihgagabGreatDoor

namespace Go.Proofs.YtjnjcielihgagabGreatDoor
open Go Go.RowKit

/-- Known bytes. -/
noncomputable def bytesL : List SV → Option (List Nat)
  | [] => some []
  | .int .u8 (.ofNat n) :: r => match bytesL r with
    | some l => @Bool.rec (fun _ => Option (List Nat)) none (some (n :: l)) (Nat.blt n 256)
    | none => none
  | _ :: _ => none
theorem bytesL_ok {env : Env} : ∀ {l : List SV} {ks : List Nat} {vs : List Value}, bytesL l = some ks → denL env l = some vs → vs = Lib.byteCells (ks.map UInt8.ofNat) := by
  intro l
  induction l with
  | nil => intro ks vs h hd; simp only [bytesL] at h; cases h; simp only [denL] at hd; cases hd; rfl
  | cons x r ih =>
    intro ks vs h hd
    obtain ⟨v, us, h1, h2, rfl⟩ := denL_cons hd
    unfold bytesL at h
    split at h
    · rename_i heq; cases heq
    · rename_i n r' heq
      cases heq
      split at h
      · rename_i l' hl
        cases hb : Nat.blt n 256 with
        | false => rw [hb] at h; exact absurd (show (none : Option (List Nat)) = some ks from h) (by simp)
        | true =>
          rw [hb] at h
          replace h : some (n :: l') = some ks := h
          cases h
          have hn : n < 256 := Nat.le_of_ble_eq_true hb
          simp only [den, Option.some.injEq] at h1
          subst h1
          rw [ih hl h2]
          have : (UInt8.ofNat n).toNat = n := by simp; omega
          simp [Lib.byteCells, this]
      · cases h
    · cases h
noncomputable def digN (n : Nat) : Nat := @Bool.rec (fun _ => Nat) (Nat.add 87 n) (Nat.add 48 n) (Nat.blt n 10)
noncomputable def hexN : List Nat → List Nat
  | [] => []
  | n :: r => digN (Nat.div n 16) :: digN (Nat.mod n 16) :: hexN r
theorem digN_ok (n : Nat) : UInt8.ofNat (digN n) = hexDigit n := by
  unfold digN hexDigit
  by_cases h : n < 10
  · rw [if_pos h, show Nat.blt n 10 = true from Nat.ble_eq_true_of_le h]
    rfl
  · rw [if_neg h]
    have : Nat.blt n 10 = false := by
      cases hb : Nat.blt n 10 with
      | false => rfl
      | true => exact absurd (Nat.le_of_ble_eq_true hb) h
    rw [this]; rfl
theorem hexN_ok : ∀ (l : List Nat), (∀ n ∈ l, n < 256) → (hexN l).map UInt8.ofNat = hexOf (l.map UInt8.ofNat) := by
  intro l
  induction l with
  | nil => intro _; rfl
  | cons n r ih =>
    intro h
    have hn : n < 256 := h n (by simp)
    have : (UInt8.ofNat n).toNat = n := by simp; omega
    simp only [hexN, List.map_cons, hexOf, this, digN_ok, ih (fun m hm => h m (by simp [hm]))]
    rfl
theorem bytesL_lt : ∀ {l : List SV} {ks : List Nat}, bytesL l = some ks → ∀ n ∈ ks, n < 256 := by
  intro l
  induction l with
  | nil => intro ks h; simp only [bytesL] at h; cases h; simp
  | cons x r ih =>
    intro ks h
    unfold bytesL at h
    split at h
    · rename_i heq; cases heq
    · rename_i n r' heq
      cases heq
      split at h
      · rename_i l' hl
        cases hb : Nat.blt n 256 with
        | false => rw [hb] at h; exact absurd (show (none : Option (List Nat)) = some ks from h) (by simp)
        | true =>
          rw [hb] at h
          replace h : some (n :: l') = some ks := h
          cases h
          intro m hm
          rcases List.mem_cons.1 hm with rfl | hm
          · exact Nat.le_of_ble_eq_true hb
          · exact ih hl m hm
      · cases h
    · cases h

noncomputable def hexOut (args : List SV) (σ : SH) : Option Outs := match args with
  | [.slice n off len _] => (match σ.get n with
    | some (.cells l _ _) => (match bytesL ((l.drop off).take len) with
      | some ks => @Bool.rec (fun _ => Option Outs) none (some [(.str (hexN ks), σ)]) (Nat.beq ks.length len && Nat.blt 0 len && Nat.ble len 1000000)
      | none => none)
    | _ => none)
  | _ => none
theorem hexOut_ok (b0 : Base) {args : List SV} {σ : SH} {outs : Outs} {env : Env} {w : World} {vs : List Value} (h : hexOut args σ = some outs) (ho : env.ones) (hr : Rel Tryz.prog b0 env σ w) (ha : denL env args = some vs) :
    Calls Tryz.prog 52 vs.toArray w (Comes1 Tryz.prog b0 env outs) := by
  unfold hexOut at h
  split at h
  · rename_i n off len cap
    split at h
    · rename_i l e1 x1 hn
      split at h
      · rename_i ks hks
        cases hc : (Nat.beq ks.length len && Nat.blt 0 len && Nat.ble len 1000000) with
        | false => rw [hc] at h; exact absurd (show (none : Option Outs) = some outs from h) (by simp)
        | true =>
          rw [hc] at h
          replace h : some [(SV.str (hexN ks), σ)] = some outs := h
          cases h
          simp only [Bool.and_eq_true] at hc
          obtain ⟨⟨c1, c2⟩, c3⟩ := hc
          have c1 := Nat.eq_of_beq_eq_true c1
          have c2 : 0 < len := Nat.le_of_ble_eq_true c2
          have c3 := Nat.le_of_ble_eq_true c3
          obtain ⟨b, c, hb, _, hO⟩ := hr.obj n _ hn
          obtain ⟨cur, t, fr, us, hcur, hth, hus, htake, _⟩ := hO
          have hsl := bytesL_ok hks (denL_take len (denL_drop off hus))
          obtain rfl : vs = [.slice (some ⟨b, off, none⟩) len (capOf c cap)] := by
            obtain ⟨v, us', h1, h2, rfl⟩ := denL_cons ha
            simp only [denL] at h2; cases h2
            simp only [den, hb, Option.some.injEq] at h1
            subst h1; rfl
          have hlen : (ks.map UInt8.ofNat).length = len := by simpa using c1
          have := hex_any (ks.map UInt8.ofNat) b off (capOf c cap) w (Array.getElem?_eq_some_iff.1 hcur).1 (fun j x hx => by
            rw [cell_of_row w b (off + j) cur t fr hcur]
            have h1 : ((us.drop off).take len)[j]? = some (.int .u8 x.toNat) := by
              rw [hsl]; unfold Lib.byteCells; rw [List.getElem?_map, hx]; rfl
            have hj : j < len := by
              rcases Nat.lt_or_ge j len with h | h
              · exact h
              · rw [List.getElem?_eq_none (by omega)] at hx; cases hx
            rw [List.getElem?_take_of_lt hj, List.getElem?_drop, ← htake] at h1
            rw [← Array.getElem?_toList]
            rw [List.getElem?_take] at h1
            split at h1
            · exact h1
            · cases h1) (by intro he; rw [he] at hlen; simp at hlen; omega) (by omega)
          rw [hlen] at this
          refine this.mono ?_
          rintro en w' ⟨rfl, hbl⟩
          refine ⟨_, List.mem_singleton.2 rfl, env, _, rfl, Env.le_refl _, hr.world hbl, ?_⟩
          simp only [den, bytesOf]
          rw [hexN_ok ks (bytesL_lt hks)]
      · cases h
    · cases h
  · cases h
end Go.Proofs.YtjnjcielihgagabGreatDoor

namespace Go.Proofs.YtjnjcielihgagabGreatDoor
open Go Go.RowKit

/-- copyCheck: the builder knows where it lies. -/
noncomputable def copyOut (args : List SV) (σ : SH) : Option Outs := match args with
  | [.ptr n 0] => (match σ.get n with
    | some (.cells (.nilp :: [y]) e true) => @Bool.rec (fun _ => Option Outs) none (some [(.tuple [], σ.put n (some (.cells (patch (.nilp :: [y]) 0 [.ptr n 0]) e true)))]) (Nat.beq e 128)
    | some (.cells (.ptr m 0 :: [y]) e true) => @Bool.rec (fun _ => Option Outs) none (some [(.tuple [], σ)]) (Nat.beq m n)
    | _ => none)
  | _ => none
theorem copyOut_ok (b0 : Base) {args : List SV} {σ : SH} {outs : Outs} {env : Env} {w : World} {vs : List Value} (h : copyOut args σ = some outs) (ho : env.ones) (hr : Rel Tryz.prog b0 env σ w) (ha : denL env args = some vs) :
    Calls Tryz.prog 89 vs.toArray w (Comes1 Tryz.prog b0 env outs) := by
  unfold copyOut at h
  split at h
  · rename_i n
    obtain ⟨v, us, h1, h2, rfl⟩ := denL_cons ha
    simp only [denL] at h2; cases h2
    obtain ⟨b, c, hb, rfl⟩ := den_ptr h1
    split at h
    · rename_i y e hn
      cases hc : Nat.beq e 128 with
      | false => rw [hc] at h; cases h
      | true =>
        rw [hc] at h
        replace h : some [(SV.tuple [], σ.put n (some (.cells (patch (.nilp :: [y]) 0 [.ptr n 0]) e true)))] = some outs := h
        cases h
        obtain rfl := Nat.eq_of_beq_eq_true hc
        obtain ⟨b', c', e1, hnk, cur, t, fr, xs, g1, g2, g3, g4, g5, g6⟩ := hr.obj n _ hn
        rw [hb] at e1; cases e1
        obtain ⟨g5a, rfl⟩ := g5 rfl
        obtain ⟨x, hx, c0, f0⟩ := hr.cell hn hb (i := 0) (s := .nilp) rfl
        simp only [den, Option.some.injEq] at hx; subst hx
        have hsh : w.shape? b = some (128, 2) := by simp only [World.shape?, g1]; rw [g5a]; rfl
        refine (copyCheck_fresh b w c0 hsh f0).mono ?_
        rintro en w' ⟨rfl, rfl⟩
        have hv : denL env [SV.ptr n 0] = some [Value.pointer (some ⟨b, 0, none⟩)] := denL_mk h1 rfl
        obtain ⟨_, hR⟩ := hr.setCells ho hn hb (off := 0) (news := [.ptr n 0]) (by simp) rfl hv
        exact ⟨_, List.mem_singleton.2 rfl, env, _, rfl, Env.le_refl _, hR, by simp only [den, denL]⟩
    · rename_i m y e hn
      cases hc : Nat.beq m n with
      | false => rw [hc] at h; cases h
      | true =>
        rw [hc] at h
        replace h : some [(SV.tuple [], σ)] = some outs := h
        cases h
        obtain rfl := Nat.eq_of_beq_eq_true hc
        obtain ⟨x, hx, c0, f0⟩ := hr.cell hn hb (i := 0) (s := .ptr m 0) rfl
        rw [h1] at hx; cases hx
        refine (copyCheck_used b w c0).mono ?_
        rintro en w' ⟨rfl, rfl⟩
        exact ⟨_, List.mem_singleton.2 rfl, env, _, rfl, Env.le_refl _, hr, by simp only [den, denL]⟩
    · cases h
  · cases h

/-- A row behind a freeze: no other block is touched. -/
theorem freeze_other (w : World) (a : Addr) (n : Nat) (k : Nat) (hk : k ≠ a.block) : (w.freeze a n).heap[k]? = w.heap[k]? := by
  unfold World.freeze
  split
  · rfl
  · simp only
    rw [Array.getElem?_modify]
    rw [if_neg (Ne.symm hk)]
theorem freeze_size (w : World) (a : Addr) (n : Nat) : (w.freeze a n).heap.size = w.heap.size := by
  unfold World.freeze
  split
  · rfl
  · simp only [Array.size_modify]
set_option maxHeartbeats 1000000 in
set_option maxRecDepth 100000 in
theorem builderString_at (b g cap : Nat) (l : List UInt8) (w : World) (h1 : w.cell? ⟨b, 1, none⟩ = some (.slice (some ⟨g, 0, none⟩) l.length cap)) (h0 : l ≠ []) (hcap : l.length ≤ cap) (size : Nat) (hsh : w.shape? g = some (5, size)) (hsz : l.length ≤ size) (hmax : l.length ≤ 9223372036854775807)
    (hcell : ∀ j x, l[j]? = some x → w.cell? ⟨g, j, none⟩ = some (.int .u8 x.toNat)) :
    Calls Tryz.prog 54 #[.pointer (some ⟨b, 0, none⟩)] w fun e w' => e = .returned (.string ⟨l.toArray⟩) ∧ w'.os = w.os ∧ w'.tape = w.tape ∧ w'.output = w.output ∧ w'.heap.size = w.heap.size ∧ ∀ k, k ≠ g → w'.heap[k]? = w.heap[k]? := by
  have hl0 : l.length ≠ 0 := by simpa using h0
  have c1 : w.drew.cell? ⟨b, 1, none⟩ = some (.slice (some ⟨g, 0, none⟩) l.length cap) := h1
  have hSD : (Builtin.unsafeSliceData_ #[24] 177 #[.slice (some ⟨g, 0, none⟩) l.length cap]).run Tryz.prog w.drew = .ok (.pointer (some ⟨g, 0, none⟩)) w.drew :=
    Lib.run_unsafeSliceData_row _ _ _ _ _ _ (by omega)
  have hUS : (Builtin.unsafeString_ #[177, 3] 9 #[.pointer (some ⟨g, 0, none⟩), .int .i64 l.length]).run Tryz.prog w.drew = .ok (.string ⟨l.toArray⟩) (w.drew.freeze ⟨g, 0, none⟩ l.length) := by
    refine Lib.run_unsafeString_row w.drew 177 3 9 5 Tryz.underlying177 cellsByte g size hsh l h0 hsz hmax ?_
    intro j x hx
    rw [show ((⟨g, 0, none⟩ : Addr).add j) = ⟨g, j, none⟩ from by rw [add_none, Nat.zero_add]]
    exact hcell j x hx
  go_enter Tryz.func54, Tryz.ntmps54
  go_wp2
  go_region
  all_goals (go_wp2; go_ret; exact ⟨rfl, by unfold World.freeze; split <;> rfl, by unfold World.freeze; split <;> rfl, by unfold World.freeze; split <;> rfl, (freeze_size w.drew _ _), fun k hk => freeze_other w.drew ⟨g, 0, none⟩ _ k hk⟩)
noncomputable def strOut (args : List SV) (σ : SH) : Option Outs := match args with
  | [.ptr n 0] => (match σ.get n with
    | some (.cells [a, .slice m 0 len (.rest 0)] e0 x0) => (match σ.get m with
      | some (.cells l e false) => (match bytesL (takeR l len) with
        | some ks => @Bool.rec (fun _ => Option Outs) none (some [(.str ks, σ.put m none)]) (Nat.beq ks.length len && Nat.blt 0 len && Nat.ble len 1000000 && Nat.beq e 5)
        | none => none)
      | _ => none)
    | _ => none)
  | _ => none
theorem strOut_ok (b0 : Base) {args : List SV} {σ : SH} {outs : Outs} {env : Env} {w : World} {vs : List Value} (h : strOut args σ = some outs) (ho : env.ones) (hr : Rel Tryz.prog b0 env σ w) (ha : denL env args = some vs) :
    Calls Tryz.prog 54 vs.toArray w (Comes1 Tryz.prog b0 env outs) := by
  unfold strOut at h
  split at h
  · rename_i n
    obtain ⟨v, us, h1, h2, rfl⟩ := denL_cons ha
    simp only [denL] at h2; cases h2
    obtain ⟨b, c, hb, rfl⟩ := den_ptr h1
    split at h
    · rename_i a m len e0 x0 hn
      split at h
      · rename_i l e hm
        rw [takeR_eq] at h
        split at h
        · rename_i ks hks
          cases hc : (Nat.beq ks.length len && Nat.blt 0 len && Nat.ble len 1000000 && Nat.beq e 5) with
          | false => rw [hc] at h; cases h
          | true =>
            rw [hc] at h
            replace h : some [(SV.str ks, σ.put m none)] = some outs := h
            cases h
            simp only [Bool.and_eq_true] at hc
            obtain ⟨⟨⟨c1, c2⟩, c3⟩, c4⟩ := hc
            have c1 := Nat.eq_of_beq_eq_true c1
            have c2 : 0 < len := Nat.le_of_ble_eq_true c2
            have c3 := Nat.le_of_ble_eq_true c3
            obtain rfl := Nat.eq_of_beq_eq_true c4
            obtain ⟨bm, cm, hbm, hnk, hO⟩ := hr.obj m _ hm
            have hO' := hO
            obtain ⟨cur, t, fr, us, hcur, hth, hus, htake, _, h6⟩ := hO'
            obtain ⟨hsz, hcm, rfl⟩ := h6 rfl
            rw [cellsByte, Nat.mul_one] at hsz
            have hsl := bytesL_ok hks (denL_take len hus)
            have hlen : (ks.map UInt8.ofNat).length = len := by simpa using c1
            have hle : len ≤ cur.size := by
              have e1 := congrArg List.length hsl
              rw [List.length_take] at e1
              have e2 : (Lib.byteCells (ks.map UInt8.ofNat)).length = len := by rw [Lib.byteCells_length]; exact hlen
              rw [e2] at e1
              have e3 := congrArg List.length htake
              rw [List.length_take] at e3
              simp only [Array.length_toList] at e3
              omega
            obtain ⟨v1, hv1, cv1, _⟩ := hr.cell hn hb (i := 1) (s := .slice m 0 len (.rest 0)) rfl
            simp only [den, hbm, Option.some.injEq, capOf, Nat.sub_zero] at hv1
            subst hv1
            have := builderString_at b bm cm (ks.map UInt8.ofNat) w (by rw [hlen]; exact cv1) (by intro he; rw [he] at hlen; simp at hlen; omega) (by omega) cur.size (by simp only [World.shape?, hcur]) (by omega) (by omega) (fun j x hx => by
              rw [cell_of_row w bm j cur _ fr hcur]
              have h1 : (us.take len)[j]? = some (.int .u8 x.toNat) := by
                rw [hsl]; unfold Lib.byteCells; rw [List.getElem?_map, hx]; rfl
              have hj : j < len := by
                rcases Nat.lt_or_ge j len with h | h
                · exact h
                · rw [List.getElem?_eq_none (by omega)] at hx; cases hx
              rw [List.getElem?_take_of_lt hj, ← htake] at h1
              rw [← Array.getElem?_toList]
              rw [List.getElem?_take] at h1
              split at h1
              · exact h1
              · cases h1)
            refine this.mono ?_
            rintro en w' ⟨rfl, q1, q2, q3, q4, q5⟩
            refine ⟨_, List.mem_singleton.2 rfl, env, _, rfl, Env.le_refl _, hr.put hm hbm q1 q2 q3 (Nat.le_of_eq q4.symm) (fun k _ hk => q5 k hk) (fun o' ho' => by cases ho'), ?_⟩
            simp only [den, bytesOf]
        · cases h
      · cases h
    · cases h
  · cases h
end Go.Proofs.YtjnjcielihgagabGreatDoor

namespace Go.Proofs.YtjnjcielihgagabGreatDoor
open Go.ChangeShapes Go.WideShapes Go.ChangeAt Go.RowKit Go.ChangeMaps

theorem okWide_one {P : Program} {w : World} {r : Reach} {b : Nat} {t : TypeId} {v : Value} (h : Cell.okWide P w r b t v) : v.oneCell' = true := by
  cases v <;> first | rfl | (exfalso; unfold Cell.okWide at h; split at h <;> first | (rename_i h1 h2; cases h2; done) | (unfold Cell.ok at h; revert h; split <;> simp_all))
def composed (P : Program) (t : TypeId) : Bool := match P.underlying t with
  | some (.struct _) | some (.array _ _) => true
  | _ => false
/-- A composed value's cells, one by one. -/
theorem agg_row {P : Program} {w : World} {r : Reach} {b : Nat} {t : TypeId} {n : Nat} {v : Value} (hc : (composed P t && Nat.beq (P.cellsOf t) n) = true) (h : Value.okWide P w r b t v) :
    ∃ l : List Value, v = .agg l.toArray ∧ l.length = n ∧ ∀ u ∈ l, u.oneCell' = true := by
  rw [Bool.and_eq_true] at hc
  obtain ⟨hc, hn⟩ := hc
  have hn := Nat.eq_of_beq_eq_true hn
  unfold composed at hc
  unfold Value.okWide at h
  have key : (∃ cs, v = .agg cs ∧ cs.size = P.cellsOf t ∧ Row.okWide P w r b t cs) → ∃ l : List Value, v = .agg l.toArray ∧ l.length = n ∧ ∀ u ∈ l, u.oneCell' = true := by
    rintro ⟨cs, rfl, hs, ts, _, _, hcell⟩
    refine ⟨cs.toList, by simp, by simpa [hn] using hs, fun u hu => ?_⟩
    obtain ⟨i, hi⟩ := List.getElem?_of_mem hu
    obtain ⟨_, _, hk⟩ := hcell i u (by simpa using hi)
    exact okWide_one hk
  cases hu : P.underlying t with
  | none => rw [hu] at hc; cases hc
  | some d => rw [hu] at hc h; cases d <;> first | exact key h | cases hc
/-- Is the last cell of so many and one a text? -/
def lastText (P : Program) (t : TypeId) (n : Nat) : Bool := match P.cellTypes P.depth t with
  | some ts => Nat.beq ts.length (n + 1) && (match ts[n]? with
    | some u => (match P.underlying u with
      | some .string => true
      | _ => false)
    | none => false)
  | none => false
theorem agg_text {P : Program} {w : World} {r : Reach} {b : Nat} {t : TypeId} {n : Nat} {v : Value} (hc : (composed P t && Nat.beq (P.cellsOf t) (n + 1)) = true) (hs : lastText P t n = true) (h : Value.okWide P w r b t v) :
    ∃ (l : List Value) (s : ByteArray), v = .agg (l ++ [Value.string s]).toArray ∧ l.length = n ∧ ∀ u ∈ l, u.oneCell' = true := by
  obtain ⟨m, rfl, hl, h1⟩ := agg_row hc h
  rw [Bool.and_eq_true] at hc
  have hcomp := hc.1
  unfold composed at hcomp
  unfold Value.okWide at h
  have key : Row.okWide P w r b t m.toArray → ∃ s, m[n]? = some (Value.string s) := by
    rintro ⟨ts, hts, _, hcell⟩
    unfold lastText at hs
    rw [hts] at hs
    simp only [Bool.and_eq_true] at hs
    obtain ⟨hlen, hu⟩ := hs
    have hlen := Nat.eq_of_beq_eq_true hlen
    have hn : n < m.length := by omega
    obtain ⟨u, hu1, hu2⟩ := hcell n m[n] (by simp [hn])
    rw [hlen, Nat.mod_eq_of_lt (Nat.lt_succ_self n)] at hu1
    rw [hu1] at hu
    simp only at hu
    unfold Cell.okWide at hu2
    rw [List.getElem?_eq_getElem hn]
    generalize m[n] = x at *
    cases hd : P.underlying u with
    | none => rw [hd] at hu; cases hu
    | some d =>
      rw [hd] at hu hu2
      cases d <;> first | (cases hu; done) | skip
      cases x <;> first | (exact ⟨_, rfl⟩) | (exfalso; simp only at hu2; unfold Cell.ok at hu2; rw [hd] at hu2; exact hu2)
  have hk : ∃ s, m[n]? = some (Value.string s) := by
    cases hu : P.underlying t with
    | none => rw [hu] at hcomp; cases hcomp
    | some d => rw [hu] at hcomp h; cases d <;> first | (cases hcomp; done) | (obtain ⟨cs, e, _, hr⟩ := h; cases e; exact key hr)
  obtain ⟨s, hms⟩ := hk
  refine ⟨m.take n, s, ?_, by simp; omega, fun u hu => h1 u (List.mem_of_mem_take hu)⟩
  have : m = m.take n ++ [Value.string s] := by
    have e := List.take_append_drop n m
    have d : m.drop n = [Value.string s] := by
      apply List.ext_getElem?
      intro i
      rw [List.getElem?_drop]
      cases i with
      | zero => simpa using hms
      | succ i => rw [List.getElem?_eq_none (by omega)]; simp
    rw [← d]; exact e.symm
  rw [← this]
theorem agg_two {P : Program} {w : World} {r : Reach} {b : Nat} {t : TypeId} {v : Value} (hc : (composed P t && Nat.beq (P.cellsOf t) 2) = true) (h : Value.okWide P w r b t v) :
    ∃ x y, v = .agg #[x, y] ∧ x.oneCell' = true ∧ y.oneCell' = true := by
  obtain ⟨l, rfl, hl, h1⟩ := agg_row hc h
  match l, hl with
  | [x, y], _ => exact ⟨x, y, rfl, h1 x (by simp), h1 y (by simp)⟩

theorem witness_shaped {H : Type} {enc : TypeId × Value → H} {C : Checked} {os : Os} {f : FuncId} {fn : Func} {s : OpenSpec} {conds : List PathCond} {apart : Bool} {laid : List (String × DataW Unit)} (modest : Bool) (w0 : World) (args : Array Value) (hos : w0.os = os)
    (hsh : (w0.forCall (fun _ _ => 0) ⟨#[], args, []⟩).Shaped C.prog) (hok : Input.okWideB C.prog (w0.forCall (fun _ _ => 0) ⟨#[], args, []⟩) f ⟨#[], args, []⟩ = true)
    (hrow : s.preRow enc C.prog fn conds apart laid (w0.forCall (fun _ _ => 0) ⟨#[], args, []⟩).memory args) :
    ∃ (w : World) (tape : Tape) (i : Input), w.os = os ∧ (w.forCall tape i).Shaped C.prog ∧ i.vars = [] ∧ Input.okWide C.prog (w.forCall tape i) .any w.heap.size f i ∧
      s.preRow enc C.prog fn conds apart laid (w.forCall tape i).memory i.args ∧ ({ modest := modest } : Assume).holds C.prog (lone (Frame.enter C.prog f i.args .normal) [] (w.forCall tape i)) :=
  ⟨w0, fun _ _ => 0, ⟨#[], args, []⟩, hos, hsh, (Input.okWide_of_okWideB (base := 0) hok).1, (Input.okWide_of_okWideB hok).2, hrow, by
    simp only [Assume.holds]
    exact ⟨by simp, by simp, fun _ => Modest.zero, by simp, by simp⟩⟩
end Go.Proofs.YtjnjcielihgagabGreatDoor

