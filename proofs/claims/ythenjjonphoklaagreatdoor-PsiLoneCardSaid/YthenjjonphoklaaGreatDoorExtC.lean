/-
  strings.Index at whatever texts, by the shelf's contract, as the executor's summary.
-/
import Derived.Test.YthenjjonphoklaaGreatDoorShelf
import Derived.Test.YthenjjonphoklaaGreatDoorExtA
set_option linter.unusedVariables false
set_option linter.unusedSimpArgs false
namespace Go.Proofs.YthenjjonphoklaaGreatDoor
open Go Go.RowKit

def preN : List Nat → List Nat → Bool
  | [], _ => true
  | a :: x, b :: y => Nat.beq (Nat.mod a 256) (Nat.mod b 256) && preN x y
  | _ :: _, [] => false
def subN (m : List Nat) : List Nat → Nat → Option Nat
  | [], i => bif preN m [] then some i else none
  | b :: r, i => bif preN m (b :: r) then some i else subN m r (i + 1)
def subS (l m : List Nat) : Int := match subN m l 0 with
  | some i => (i : Nat)
  | none => -1
theorem preN_ok : ∀ (m l : List Nat), (m.map UInt8.ofNat).isPrefixOf (l.map UInt8.ofNat) = preN m l := by
  intro m
  induction m with
  | nil => intro l; simp [preN]
  | cons a x ih =>
    intro l
    cases l with
    | nil => rfl
    | cons b y =>
      simp only [List.map_cons, List.isPrefixOf_cons_cons, preN, ih, u8_eq]
      congr 1
      rw [Bool.eq_iff_iff, beq_iff_eq, Nat.beq_eq]
      rfl
theorem subN_ok (m : List Nat) : ∀ (l : List Nat) (i : Nat), (match subN m l i with
    | some k => Lib.index (l.map UInt8.ofNat) (m.map UInt8.ofNat) + i = (k : Nat) ∧ 0 ≤ Lib.index (l.map UInt8.ofNat) (m.map UInt8.ofNat)
    | none => Lib.index (l.map UInt8.ofNat) (m.map UInt8.ofNat) = -1) := by
  intro l
  induction l with
  | nil =>
    intro i
    cases m with
    | nil => simp [subN, preN, Lib.index]
    | cons a x => simp [subN, preN, Lib.index]
  | cons b r ih =>
    intro i
    have hp := preN_ok m (b :: r)
    rw [List.map_cons] at hp ⊢
    unfold Lib.index
    rw [hp]
    simp only [subN]
    cases h : preN m (b :: r) with
    | true => simp
    | false =>
      have hi := ih (i + 1)
      simp only [cond_false, Bool.false_eq_true, if_false]
      cases hk : subN m r (i + 1) with
      | some k =>
        rw [hk] at hi
        obtain ⟨h1, h2⟩ := hi
        have hne : ¬ ((Lib.index (r.map UInt8.ofNat) (m.map UInt8.ofNat) == -1) = true) := by
          intro he
          have := eq_of_beq he
          omega
        simp only [hne, Bool.false_eq_true, if_false]
        omega
      | none =>
        rw [hk] at hi
        simp only at hi
        simp [hi]
theorem subS_ok (l m : List Nat) : Lib.index (bytesOf l).data.toList (bytesOf m).data.toList = subS l m := by
  rw [bytesOf_list, bytesOf_list]
  have h := subN_ok m l 0
  unfold subS
  cases hk : subN m l 0 with
  | some k => rw [hk] at h; have := h.1; simp only; omega
  | none => rw [hk] at h; exact h

noncomputable def subOut (args : List SV) (σ : SH) : Option Outs := match args with
  | [.str l, .str m] => @Bool.rec (fun _ => Option Outs) none (some [(.int .i64 (subS l m), σ)]) (Nat.blt l.length 4294967281)
  | _ => none
theorem subOut_ok (b : Base) {args : List SV} {σ : SH} {outs : Outs} {env : Env} {w : World} {vs : List Value} (h : subOut args σ = some outs) (hr : Rel Tryz.prog b env σ w) (ha : denL env args = some vs) :
    Calls Tryz.prog 93 vs.toArray w (Comes1 Tryz.prog b env outs) := by
  unfold subOut at h
  split at h
  · rename_i l m
    cases hc : Nat.blt l.length 4294967281 with
    | false => rw [hc] at h; cases h
    | true =>
      rw [hc] at h
      replace h : some [(SV.int .i64 (subS l m), σ)] = some outs := h
      cases h
      have hc : l.length < 4294967281 := Nat.le_of_ble_eq_true hc
      obtain ⟨v, us, h1, h2, rfl⟩ := denL_cons ha
      obtain ⟨v2, us2, h3, h4, rfl⟩ := denL_cons h2
      simp only [den, Option.some.injEq] at h1 h3; subst h1; subst h3
      simp only [denL] at h4; cases h4
      obtain ⟨m0, hm0⟩ := hr.maxLen 0 (by kernel_rfl)
      refine (Tryz.stringslite_Index (bytesOf l) (bytesOf m) m0 w (by rw [bytesOf_size]; exact hc) hm0).mono ?_
      rintro e w' ⟨rfl, rfl⟩
      refine ⟨_, List.mem_singleton.2 rfl, env, _, rfl, Env.le_refl _, hr, ?_⟩
      simp only [den]
      rw [← subS_ok]
  · cases h
end Go.Proofs.YthenjjonphoklaaGreatDoor
