/-
  Functions without a body: strings.IndexByte, strings.Compare, as contracts and as the executor's summaries.
-/
import Derived.Test.YthenjjonphoklaaGreatDoorChecked
import Derived.Test.YthenjjonphoklaaGreatDoorExec
import Derived.WalkKit
import Derived.ProofKit
import Derived.Lib.Bytealg
import Derived.Lib.Walk
set_option linter.unusedVariables false
set_option linter.unusedSimpArgs false
namespace Go.Proofs.YthenjjonphoklaaGreatDoor
open Go Go.RowKit

set_option maxRecDepth 100000 in
theorem indexByte_any (s : ByteArray) (c : Int) (w : World) :
    Calls Tryz.prog 123 #[.string s, .int .u8 c] w fun e w' => e = .returned (.int .i64 (Lib.indexByte s.data.toList c.toNat.toUInt8)) ∧ w' = w := by
  go_enter Tryz.func123, Tryz.ntmps123
  go_wp2_with fail
  rw [run_callFunc_extern Tryz.func149 (by kernel_rfl) (by kernel_rfl) (by kernel_rfl) (e := Extern.BytealgIndexByte.indexByte) (by kernel_rfl), Lib.run_indexByteString]
  simp only [Result.andThen]
  rw [Oper.upon_value]
  go_wp2_with fail
  go_ret
  exact ⟨rfl, rfl⟩

set_option maxRecDepth 100000 in
theorem compareString_any (a b : ByteArray) (w : World) :
    Calls Tryz.prog 137 #[.string a, .string b] w fun e w' => e = .returned (.int .i64 (Lib.compareBytes a.data.toList b.data.toList)) ∧ w' = w := by
  go_enter Tryz.func137, Tryz.ntmps137
  go_wp2_with fail
  rw [run_callFunc_extern Tryz.func162 (by kernel_rfl) (by kernel_rfl) (by kernel_rfl) (e := Extern.BytealgCompare.compare) (by kernel_rfl), Lib.run_compareString]
  simp only [Result.andThen]
  rw [Oper.upon_value]
  go_wp2_with fail
  go_ret
  exact ⟨rfl, rfl⟩

/-- Where a byte stands first. -/
noncomputable def idxN (c : Nat) (l : List Nat) : Nat → Option Nat :=
  @List.rec Nat (fun _ => Nat → Option Nat) (fun _ => none) (fun x _ ih i => @Bool.rec (fun _ => Option Nat) (ih (Nat.succ i)) (some i) (Nat.beq (Nat.mod x 256) c)) l
noncomputable def idxS (c : Nat) (l : List Nat) : Int := match idxN c l 0 with
  | some i => (i : Nat)
  | none => -1
theorem idxN_ok (c : Nat) (hc : c < 256) : ∀ (l : List Nat) (i : Nat), (match idxN c l i with
    | some k => Lib.indexByte (l.map UInt8.ofNat) (UInt8.ofNat c) + i = (k : Nat) ∧ 0 ≤ Lib.indexByte (l.map UInt8.ofNat) (UInt8.ofNat c)
    | none => Lib.indexByte (l.map UInt8.ofNat) (UInt8.ofNat c) = -1) := by
  intro l
  induction l with
  | nil => intro i; rfl
  | cons x r ih =>
    intro i
    have hb : ((UInt8.ofNat x) == (UInt8.ofNat c)) = Nat.beq (Nat.mod x 256) c := by
      have e1 : ((UInt8.ofNat x) == (UInt8.ofNat c)) = decide (x % 256 = c % 256) := by
        have := u8_eq x c
        rw [this]; rfl
      rw [e1, Nat.mod_eq_of_lt hc]
      cases h : Nat.beq (Nat.mod x 256) c with
      | true => exact decide_eq_true (Nat.eq_of_beq_eq_true h)
      | false => exact decide_eq_false (Nat.ne_of_beq_eq_false h)
    show (match @Bool.rec (fun _ => Option Nat) (idxN c r (Nat.succ i)) (some i) (Nat.beq (Nat.mod x 256) c) with
      | some k => Lib.indexByte (UInt8.ofNat x :: r.map UInt8.ofNat) (UInt8.ofNat c) + i = (k : Nat) ∧ 0 ≤ Lib.indexByte (UInt8.ofNat x :: r.map UInt8.ofNat) (UInt8.ofNat c)
      | none => Lib.indexByte (UInt8.ofNat x :: r.map UInt8.ofNat) (UInt8.ofNat c) = -1)
    simp only [Lib.indexByte, hb]
    cases h : Nat.beq (Nat.mod x 256) c with
    | true => simp
    | false =>
      have hi := ih (i + 1)
      show (match idxN c r (i + 1) with
        | some k => _
        | none => _)
      cases hk : idxN c r (i + 1) with
      | some k =>
        rw [hk] at hi
        obtain ⟨h1, h2⟩ := hi
        have hne : ¬ ((Lib.indexByte (r.map UInt8.ofNat) (UInt8.ofNat c) == -1) = true) := by
          intro he
          have := eq_of_beq he
          omega
        simp only [Bool.false_eq_true, if_false, hne]
        omega
      | none =>
        rw [hk] at hi
        simp only at hi
        simp [hi]
theorem idxS_ok (c : Nat) (hc : c < 256) (l : List Nat) : Lib.indexByte (bytesOf l).data.toList (UInt8.ofNat c) = idxS c l := by
  rw [bytesOf_list]
  have h := idxN_ok c hc l 0
  unfold idxS
  cases hk : idxN c l 0 with
  | some k => rw [hk] at h; have := h.1; simp only; omega
  | none => rw [hk] at h; exact h
noncomputable def cmpS (a b : List Nat) : Int := @Bool.rec (fun _ => Int) (@Bool.rec (fun _ => Int) 1 0 (eqBytes a b)) (-1) (ltBytes a b)
theorem cmpS_ok : ∀ (a b : List Nat), Lib.compareBytes (a.map UInt8.ofNat) (b.map UInt8.ofNat) = cmpS a b := by
  intro a
  induction a with
  | nil => intro b; cases b <;> rfl
  | cons x r ih =>
    intro b
    cases b with
    | nil => rfl
    | cons y s =>
      have hlt : ∀ p q : Nat, (UInt8.ofNat p < UInt8.ofNat q) ↔ p % 256 < q % 256 := fun p q => by
        rw [UInt8.lt_iff_toNat_lt]; simp
      simp only [List.map_cons, Lib.compareBytes, hlt, ih]
      unfold cmpS
      simp only [ltBytes, eqBytes]
      by_cases h1 : x % 256 < y % 256
      · simp [h1]
      · by_cases h2 : y % 256 < x % 256
        · have h3 : (x % 256 == y % 256) = false := by simp; omega
          rw [h3]; simp [h1, h2]
        · have h3 : x % 256 = y % 256 := by omega
          simp [h3]

noncomputable def indexOut (args : List SV) (σ : SH) : Option Outs := match args with
  | [.str l, .int .u8 (.ofNat c)] => @Bool.rec (fun _ => Option Outs) none (some [(.int .i64 (idxS c l), σ)]) (Nat.blt c 256)
  | _ => none
theorem indexOut_ok (b : Base) {args : List SV} {σ : SH} {outs : Outs} {env : Env} {w : World} {vs : List Value} (h : indexOut args σ = some outs) (hr : Rel Tryz.prog b env σ w) (ha : denL env args = some vs) :
    Calls Tryz.prog 123 vs.toArray w (Comes1 Tryz.prog b env outs) := by
  unfold indexOut at h
  split at h
  · rename_i l c
    cases hc : Nat.blt c 256 with
    | false => rw [hc] at h; cases h
    | true =>
      rw [hc] at h
      replace h : some [(SV.int .i64 (idxS c l), σ)] = some outs := h
      cases h
      have hc : c < 256 := Nat.le_of_ble_eq_true hc
      obtain ⟨v, us, h1, h2, rfl⟩ := denL_cons ha
      obtain ⟨v2, us2, h3, h4, rfl⟩ := denL_cons h2
      simp only [den, Option.some.injEq] at h1 h3; subst h1; subst h3
      simp only [denL] at h4; cases h4
      refine (indexByte_any (bytesOf l) (c : Nat) w).mono ?_
      rintro e w' ⟨rfl, rfl⟩
      refine ⟨_, List.mem_singleton.2 rfl, env, _, rfl, Env.le_refl _, hr, ?_⟩
      simp only [den]
      rw [← idxS_ok c hc l]
      rfl
  · cases h
noncomputable def compareOut (args : List SV) (σ : SH) : Option Outs := match args with
  | [.str l, .str m] => some [(.int .i64 (cmpS l m), σ)]
  | _ => none
theorem compareOut_ok (b : Base) {args : List SV} {σ : SH} {outs : Outs} {env : Env} {w : World} {vs : List Value} (h : compareOut args σ = some outs) (hr : Rel Tryz.prog b env σ w) (ha : denL env args = some vs) :
    Calls Tryz.prog 137 vs.toArray w (Comes1 Tryz.prog b env outs) := by
  unfold compareOut at h
  split at h
  · rename_i l m; cases h
    obtain ⟨v, us, h1, h2, rfl⟩ := denL_cons ha
    obtain ⟨v2, us2, h3, h4, rfl⟩ := denL_cons h2
    simp only [den, Option.some.injEq] at h1 h3; subst h1; subst h3
    simp only [denL] at h4; cases h4
    refine (compareString_any (bytesOf l) (bytesOf m) w).mono ?_
    rintro e w' ⟨rfl, rfl⟩
    refine ⟨_, List.mem_singleton.2 rfl, env, _, rfl, Env.le_refl _, hr, ?_⟩
    simp only [den]
    rw [bytesOf_list, bytesOf_list, cmpS_ok]
  · cases h

set_option maxRecDepth 100000 in
theorem count1_aux (s : ByteArray) (c : UInt8) (w : World) :
    Calls Tryz.prog 119 #[.string s, .string ⟨#[c]⟩] w fun e w' => e = .returned (.int .i64 (Lib.countByte s.data.toList c)) ∧ w' = w := by
  go_enter Tryz.func119, Tryz.ntmps119
  go_wp2
  rw [run_callFunc_extern Tryz.func147 (by kernel_rfl) (by kernel_rfl) (by kernel_rfl) (e := Extern.BytealgCount.count) (by kernel_rfl), Lib.run_countString]
  simp only [Result.andThen]
  rw [Oper.upon_value]
  go_wp2
  go_ret
  exact ⟨rfl, rfl⟩
noncomputable def cntN (c : Nat) (l : List Nat) : Nat :=
  @List.rec Nat (fun _ => Nat) 0 (fun x _ ih => @Bool.rec (fun _ => Nat) ih (Nat.succ ih) (Nat.beq (Nat.mod x 256) c)) l
theorem cntN_ok (c : Nat) (hc : c < 256) : ∀ l : List Nat, Lib.countByte (l.map UInt8.ofNat) (UInt8.ofNat c) = cntN c l := by
  intro l
  induction l with
  | nil => rfl
  | cons x r ih =>
    have hb : ((UInt8.ofNat x) == (UInt8.ofNat c)) = Nat.beq (Nat.mod x 256) c := by
      have e1 : ((UInt8.ofNat x) == (UInt8.ofNat c)) = decide (x % 256 = c % 256) := by
        have := u8_eq x c
        rw [this]; rfl
      rw [e1, Nat.mod_eq_of_lt hc]
      cases h : Nat.beq (Nat.mod x 256) c with
      | true => exact decide_eq_true (Nat.eq_of_beq_eq_true h)
      | false => exact decide_eq_false (Nat.ne_of_beq_eq_false h)
    unfold Lib.countByte at ih ⊢
    rw [List.map_cons, List.count_cons, hb, ih]
    show _ = @Bool.rec (fun _ => Nat) (cntN c r) (Nat.succ (cntN c r)) (Nat.beq (Nat.mod x 256) c)
    cases Nat.beq (Nat.mod x 256) c <;> simp
noncomputable def countOut (args : List SV) (σ : SH) : Option Outs := match args with
  | [.str l, .str [c]] => @Bool.rec (fun _ => Option Outs) none (some [(.int .i64 (cntN c l : Nat), σ)]) (Nat.blt c 256)
  | _ => none
theorem countOut_ok (b : Base) {args : List SV} {σ : SH} {outs : Outs} {env : Env} {w : World} {vs : List Value} (h : countOut args σ = some outs) (hr : Rel Tryz.prog b env σ w) (ha : denL env args = some vs) :
    Calls Tryz.prog 119 vs.toArray w (Comes1 Tryz.prog b env outs) := by
  unfold countOut at h
  split at h
  · rename_i l c
    cases hc : Nat.blt c 256 with
    | false => rw [hc] at h; cases h
    | true =>
      rw [hc] at h
      replace h : some [(SV.int .i64 (cntN c l : Nat), σ)] = some outs := h
      cases h
      have hc : c < 256 := Nat.le_of_ble_eq_true hc
      obtain ⟨v, us, h1, h2, rfl⟩ := denL_cons ha
      obtain ⟨v2, us2, h3, h4, rfl⟩ := denL_cons h2
      simp only [den, Option.some.injEq] at h1 h3; subst h1; subst h3
      simp only [denL] at h4; cases h4
      refine (count1_aux (bytesOf l) (UInt8.ofNat c) w).mono ?_
      rintro e w' ⟨rfl, rfl⟩
      refine ⟨_, List.mem_singleton.2 rfl, env, _, rfl, Env.le_refl _, hr, ?_⟩
      simp only [den]
      rw [bytesOf_list, cntN_ok c hc]
  · cases h
end Go.Proofs.YthenjjonphoklaaGreatDoor
