/-
  THE EXECUTOR, part Y: integers by the recursors alone.
-/
import Derived.Test.YthenjjonphoklaaGreatDoorSymD
set_option linter.unusedVariables false
set_option linter.unusedSimpArgs false
namespace Go.Proofs.YthenjjonphoklaaGreatDoor
open Go Go.RowKit

variable {P : Program} {env : Env} {σ : SH}

/-- 2 to the kind's bits. -/
def modOf : IntKind → Nat
  | .i8 | .u8 => 256
  | .i16 | .u16 => 65536
  | .i32 | .u32 => 4294967296
  | .i64 | .u64 => 18446744073709551616
/-- What the numbers of a kind that are not negative lie below. -/
def halfOf : IntKind → Nat
  | .i8 => 128 | .u8 => 256
  | .i16 => 32768 | .u16 => 65536
  | .i32 => 2147483648 | .u32 => 4294967296
  | .i64 => 9223372036854775808 | .u64 => 18446744073709551616
noncomputable def umod (M : Nat) (n : Int) : Nat := @Int.casesOn (fun _ => Nat) n (fun m => Nat.mod m M) (fun m => Nat.sub (Nat.sub M 1) (Nat.mod m M))
theorem umod_eq {M : Nat} (h : 0 < M) (n : Int) : ((umod M n : Nat) : Int) = n % (M : Int) := by
  cases n with
  | ofNat m => exact Int.natCast_emod m M
  | negSucc m =>
    show (((M - 1) - m % M : Nat) : Int) = _
    have h1 : m % M < M := Nat.mod_lt _ h
    rw [Int.negSucc_emod m (by omega : (0 : Int) < (M : Int))]
    have h2 : ((m : Int) % (M : Int)) = ((m % M : Nat) : Int) := rfl
    rw [h2]
    omega
noncomputable def wrapF (k : IntKind) (n : Int) : Int := @Bool.rec (fun _ => Int) (Int.ofNat (umod (modOf k) n)) (Int.negSucc (Nat.sub (Nat.sub (modOf k) 1) (umod (modOf k) n))) (Nat.ble (halfOf k) (umod (modOf k) n))
theorem wrapF_eq (k : IntKind) (n : Int) : wrapF k n = k.wrap n := by
  have hM : 0 < modOf k := by cases k <;> decide
  have hu := umod_eq hM n
  have hlt : umod (modOf k) n < modOf k := by
    have := Int.emod_lt_of_pos n (show (0 : Int) < (modOf k : Int) by omega)
    omega
  have e8 : (2 : Int) ^ 8 = 256 := rfl
  have e16 : (2 : Int) ^ 16 = 65536 := rfl
  have e32 : (2 : Int) ^ 32 = 4294967296 := rfl
  have e64 : (2 : Int) ^ 64 = 18446744073709551616 := rfl
  have h8 : (2 : Int) ^ (8 - 1) = 128 := rfl
  have h16 : (2 : Int) ^ (16 - 1) = 32768 := rfl
  have h32 : (2 : Int) ^ (32 - 1) = 2147483648 := rfl
  have h64 : (2 : Int) ^ (64 - 1) = 9223372036854775808 := rfl
  unfold wrapF
  cases hb : Nat.ble (halfOf k) (umod (modOf k) n) with
  | false =>
    have hb' : ¬ halfOf k ≤ umod (modOf k) n := fun hh => by rw [Nat.ble_eq_true_of_le hh] at hb; cases hb
    show ((umod (modOf k) n : Nat) : Int) = _
    generalize umod (modOf k) n = m at *
    cases k <;> simp only [modOf, halfOf, IntKind.wrap, IntKind.bits, IntKind.signed, Bool.true_and, Bool.false_and, Bool.false_eq_true, if_false, e8, e16, e32, e64, h8, h16, h32, h64] at * <;> first | omega | (rw [if_neg (by simp only [decide_eq_true_eq]; omega)]; omega)
  | true =>
    have hb' := Nat.le_of_ble_eq_true hb
    show Int.negSucc (modOf k - 1 - umod (modOf k) n) = _
    rw [Int.negSucc_eq]
    generalize umod (modOf k) n = m at *
    cases k <;> simp only [modOf, halfOf, IntKind.wrap, IntKind.bits, IntKind.signed, Bool.true_and, Bool.false_and, Bool.false_eq_true, if_false, e8, e16, e32, e64, h8, h16, h32, h64] at * <;> first | omega | (rw [if_pos (by simp only [decide_eq_true_eq]; omega)]; omega)

def kN : IntKind → Nat
  | .i8 => 0 | .u8 => 1 | .i16 => 2 | .u16 => 3 | .i32 => 4 | .u32 => 5 | .i64 => 6 | .u64 => 7
theorem kN_inj {k k' : IntKind} (h : Nat.beq (kN k) (kN k') = true) : k = k' := by
  have := Nat.eq_of_beq_eq_true h
  cases k <;> cases k' <;> first | rfl | (simp [kN] at this)
noncomputable def iEq (a b : Int) : Bool :=
  @Int.casesOn (fun _ => Bool) a
    (fun x => @Int.casesOn (fun _ => Bool) b (fun y => Nat.beq x y) (fun _ => false))
    (fun x => @Int.casesOn (fun _ => Bool) b (fun _ => false) (fun y => Nat.beq x y))
theorem iEq_eq (a b : Int) : iEq a b = (a == b) := by
  rw [Bool.eq_iff_iff, beq_iff_eq]
  cases a with
  | ofNat x =>
    cases b with
    | ofNat y =>
      show Nat.beq x y = true ↔ _
      rw [Nat.beq_eq]; simp only [Int.ofNat_eq_natCast]; omega
    | negSucc y => simp only [iEq]; constructor; (intro h; cases h); (intro h; exfalso; have := Int.negSucc_lt_zero y; simp only [Int.ofNat_eq_natCast] at h; omega)
  | negSucc x =>
    cases b with
    | ofNat y => simp only [iEq]; constructor; (intro h; cases h); (intro h; exfalso; have := Int.negSucc_lt_zero x; simp only [Int.ofNat_eq_natCast] at h; omega)
    | negSucc y =>
      show Nat.beq x y = true ↔ _
      rw [Nat.beq_eq]; omega
/-- Less, for integers, by the constructors alone. -/
noncomputable def iLt (a b : Int) : Bool :=
  @Int.casesOn (fun _ => Bool) a
    (fun x => @Int.casesOn (fun _ => Bool) b (fun y => Nat.blt x y) (fun _ => false))
    (fun x => @Int.casesOn (fun _ => Bool) b (fun _ => true) (fun y => Nat.blt y x))
theorem iLt_eq (a b : Int) : iLt a b = decide (a < b) := by
  rw [Bool.eq_iff_iff, decide_eq_true_eq]
  cases a with
  | ofNat x =>
    cases b with
    | ofNat y =>
      show Nat.blt x y = true ↔ _
      rw [show (Nat.blt x y = true) = (x < y) from by simp [Nat.blt_eq]]
      simp only [Int.ofNat_eq_natCast]; omega
    | negSucc y => simp only [iLt]; constructor; (intro h; cases h); (intro h; exfalso; have := Int.negSucc_lt_zero y; simp only [Int.ofNat_eq_natCast] at h; omega)
  | negSucc x =>
    cases b with
    | ofNat y => simp only [iLt]; constructor; (intro _; have := Int.negSucc_lt_zero x; simp only [Int.ofNat_eq_natCast]; omega); (intro _; trivial)
    | negSucc y =>
      show Nat.blt y x = true ↔ _
      rw [show (Nat.blt y x = true) = (y < x) from by simp [Nat.blt_eq]]
      omega

theorem half_pow (k : IntKind) : ∃ j, halfOf k = 2 ^ j ∧ j ≤ k.bits := by
  cases k
  · exact ⟨7, rfl, by decide⟩
  · exact ⟨15, rfl, by decide⟩
  · exact ⟨31, rfl, by decide⟩
  · exact ⟨63, rfl, by decide⟩
  · exact ⟨8, rfl, by decide⟩
  · exact ⟨16, rfl, by decide⟩
  · exact ⟨32, rfl, by decide⟩
  · exact ⟨64, rfl, by decide⟩
theorem wrap_half {k : IntKind} {r : Nat} (h : r < halfOf k) : k.wrap ((r : Nat) : Int) = (r : Nat) := by
  rw [← wrapF_eq]
  have hle : halfOf k ≤ modOf k := by cases k <;> decide
  have hm : umod (modOf k) ((r : Nat) : Int) = r := Nat.mod_eq_of_lt (by omega)
  unfold wrapF
  rw [hm]
  have : Nat.ble (halfOf k) r = false := by
    cases hb : Nat.ble (halfOf k) r with
    | false => rfl
    | true => have := Nat.le_of_ble_eq_true hb; omega
  rw [this]; rfl
theorem ofInt_small {k : IntKind} {x : Nat} (h : x < halfOf k) : (BitVec.ofInt k.bits ((x : Nat) : Int)).toNat = x := by
  obtain ⟨j, hj, hjb⟩ := half_pow k
  have : x < 2 ^ k.bits := Nat.lt_of_lt_of_le (hj ▸ h) (Nat.pow_le_pow_right (by decide) hjb)
  rw [BitVec.toNat_ofInt]
  have e : (((x : Nat) : Int) % ((2 ^ k.bits : Nat) : Int)) = ((x % 2 ^ k.bits : Nat) : Int) := rfl
  rw [e, Nat.mod_eq_of_lt this]; rfl

theorem small_mod {k : IntKind} {x : Nat} (h : x < halfOf k) : x % 2 ^ k.bits = x := by
  obtain ⟨j, hj, hjb⟩ := half_pow k
  exact Nat.mod_eq_of_lt (Nat.lt_of_lt_of_le (hj ▸ h) (Nat.pow_le_pow_right (by decide) hjb))

noncomputable def natsF (k : IntKind) (a b : Int) (f : Nat → Nat → Nat) : Option SV :=
  @Int.casesOn (fun _ => Option SV) a
    (fun x => @Int.casesOn (fun _ => Option SV) b (fun y => @Bool.rec (fun _ => Option SV) none (@Bool.rec (fun _ => Option SV) none (some (.int k (Int.ofNat (f x y)))) (Nat.blt y (halfOf k))) (Nat.blt x (halfOf k))) (fun _ => none)) (fun _ => none)
theorem natsF_ok {k : IntKind} {a b : Int} {f : Nat → Nat → Nat} {s : SV} (h : natsF k a b f = some s) : ∃ x y : Nat, a = (x : Nat) ∧ b = (y : Nat) ∧ x < halfOf k ∧ y < halfOf k ∧ s = .int k ((f x y : Nat) : Int) := by
  unfold natsF at h
  cases a with
  | negSucc x => exact absurd (show (none : Option SV) = some s from h) (by simp)
  | ofNat x =>
    cases b with
    | negSucc y => exact absurd (show (none : Option SV) = some s from h) (by simp)
    | ofNat y =>
      have h : @Bool.rec (fun _ => Option SV) none (@Bool.rec (fun _ => Option SV) none (some (.int k (Int.ofNat (f x y)))) (Nat.blt y (halfOf k))) (Nat.blt x (halfOf k)) = some s := h
      cases h1 : Nat.blt x (halfOf k) with
      | false => rw [h1] at h; exact absurd (show (none : Option SV) = some s from h) (by simp)
      | true =>
        rw [h1] at h
        have h : @Bool.rec (fun _ => Option SV) none (some (.int k (Int.ofNat (f x y)))) (Nat.blt y (halfOf k)) = some s := h
        cases h2 : Nat.blt y (halfOf k) with
        | false => rw [h2] at h; exact absurd (show (none : Option SV) = some s from h) (by simp)
        | true =>
          rw [h2] at h
          have h : some (SV.int k (Int.ofNat (f x y))) = some s := h
          cases h
          exact ⟨x, y, rfl, rfl, Nat.le_of_ble_eq_true h1, Nat.le_of_ble_eq_true h2, rfl⟩
noncomputable def shAmt (k : IntKind) (y : Nat) : Nat := @Bool.rec (fun _ => Nat) k.bits y (Nat.ble y k.bits)
theorem shAmt_eq (k : IntKind) (y : Nat) : shAmt k y = min y k.bits := by
  unfold shAmt
  cases h : Nat.ble y k.bits with
  | true => have := Nat.le_of_ble_eq_true h; show y = _; omega
  | false =>
    have : ¬ y ≤ k.bits := fun hh => by rw [Nat.ble_eq_true_of_le hh] at h; cases h
    show k.bits = _; omega
noncomputable def sameF (op : BinOp) (k : IntKind) (a b : Int) : Option SV := match op with
  | .add => some (.int k (wrapF k (Int.add a b)))
  | .sub => some (.int k (wrapF k (Int.sub a b)))
  | .mul => some (.int k (wrapF k (Int.mul a b)))
  | .and => natsF k a b Nat.land
  | .or => natsF k a b Nat.lor
  | .xor => natsF k a b Nat.xor
  | .eql => some (.bool (iEq a b))
  | .neq => some (.bool (@Bool.rec (fun _ => Bool) true false (iEq a b)))
  | .lss => some (.bool (iLt a b))
  | .leq => some (.bool (@Bool.rec (fun _ => Bool) true false (iLt b a)))
  | .gtr => some (.bool (iLt b a))
  | .geq => some (.bool (@Bool.rec (fun _ => Bool) true false (iLt a b)))
  | _ => none
/-- An operation on two integers. -/
noncomputable def intF (op : BinOp) (k k' : IntKind) (a b : Int) : Option SV := match op with
  | .shl => @Int.casesOn (fun _ => Option SV) b (fun y => some (.int k (wrapF k (Int.mul a (Int.ofNat (Nat.pow 2 (shAmt k y))))))) (fun _ => none)
  | .shr => @Int.casesOn (fun _ => Option SV) b (fun y => @Int.casesOn (fun _ => Option SV) a (fun x => some (.int k (Int.ofNat (Nat.div x (Nat.pow 2 (shAmt k y)))))) (fun _ => none)) (fun _ => none)
  | op => @Bool.rec (fun _ => Option SV) none (sameF op k a b) (Nat.beq (kN k) (kN k'))
theorem not_rec (b : Bool) : @Bool.rec (fun _ => Bool) true false b = !b := by cases b <;> rfl
theorem sameF_ok {op : BinOp} {k : IntKind} {a b : Int} {s : SV} {T : TypeId} (h : sameF op k a b = some s) : ∃ v, den env s = some v ∧ ∀ w, (binOp op T (.int k a) (.int k b)).run P w = .ok v w := by
  unfold sameF at h
  split at h
  · cases h; refine ⟨_, rfl, fun w => ?_⟩; rw [wrapF_eq]; simp [binOp, Op.intArith] <;> rfl
  · cases h; refine ⟨_, rfl, fun w => ?_⟩; rw [wrapF_eq]; simp [binOp, Op.intArith] <;> rfl
  · cases h; refine ⟨_, rfl, fun w => ?_⟩; rw [wrapF_eq]; simp [binOp, Op.intArith] <;> rfl
  · obtain ⟨x, y, rfl, rfl, hx, hy, rfl⟩ := natsF_ok h
    refine ⟨_, rfl, fun w => ?_⟩
    have hr : x &&& y < halfOf k := Nat.lt_of_le_of_lt Nat.and_le_left hx
    simp [binOp, Op.intBits]
    rw [small_mod hx, small_mod hy, wrap_half hr]
  · obtain ⟨x, y, rfl, rfl, hx, hy, rfl⟩ := natsF_ok h
    refine ⟨_, rfl, fun w => ?_⟩
    obtain ⟨j, hj, _⟩ := half_pow k
    have hr : x ||| y < halfOf k := by rw [hj]; exact Nat.or_lt_two_pow (hj ▸ hx) (hj ▸ hy)
    simp [binOp, Op.intBits]
    rw [small_mod hx, small_mod hy, wrap_half hr]
  · obtain ⟨x, y, rfl, rfl, hx, hy, rfl⟩ := natsF_ok h
    refine ⟨_, rfl, fun w => ?_⟩
    obtain ⟨j, hj, _⟩ := half_pow k
    have hr : x ^^^ y < halfOf k := by rw [hj]; exact Nat.xor_lt_two_pow (hj ▸ hx) (hj ▸ hy)
    simp [binOp, Op.intBits]
    rw [small_mod hx, small_mod hy, wrap_half hr]
  · cases h; refine ⟨_, rfl, fun w => ?_⟩; rw [iEq_eq]; simp [binOp, Op.intCmp]
  · cases h; refine ⟨_, rfl, fun w => ?_⟩; rw [not_rec, iEq_eq]; simp [binOp, Op.intCmp] <;> rfl
  · cases h; refine ⟨_, rfl, fun w => ?_⟩; rw [iLt_eq]; simp [binOp, Op.intCmp]
  · cases h
    refine ⟨_, rfl, fun w => ?_⟩
    have : (!decide (b < a)) = decide (a ≤ b) := by rw [Bool.eq_iff_iff]; simp
    rw [not_rec, iLt_eq, this]; simp [binOp, Op.intCmp]
  · cases h; refine ⟨_, rfl, fun w => ?_⟩; rw [iLt_eq]; simp [binOp, Op.intCmp]
  · cases h
    refine ⟨_, rfl, fun w => ?_⟩
    have : (!decide (a < b)) = decide (b ≤ a) := by rw [Bool.eq_iff_iff]; simp
    rw [not_rec, iLt_eq, this]; simp [binOp, Op.intCmp]
  · cases h
theorem intF_ok {op : BinOp} {k k' : IntKind} {a b : Int} {s : SV} {T : TypeId} (h : intF op k k' a b = some s) : ∃ v, den env s = some v ∧ ∀ w, (binOp op T (.int k a) (.int k' b)).run P w = .ok v w := by
  unfold intF at h
  split at h
  · cases b with
    | negSucc y => exact absurd (show (none : Option SV) = some s from h) (by simp)
    | ofNat y =>
      have h : some (SV.int k (wrapF k (Int.mul a (Int.ofNat (Nat.pow 2 (shAmt k y)))))) = some s := h
      cases h
      refine ⟨_, rfl, fun w => ?_⟩
      rw [wrapF_eq, shAmt_eq]
      have hy : ¬ ((y : Nat) : Int) < 0 := by omega
      simp [binOp, Op.shift, hy] <;> rfl
  · cases b with
    | negSucc y => exact absurd (show (none : Option SV) = some s from h) (by simp)
    | ofNat y =>
      cases a with
      | negSucc x => exact absurd (show (none : Option SV) = some s from h) (by simp)
      | ofNat x =>
        have h : some (SV.int k (Int.ofNat (Nat.div x (Nat.pow 2 (shAmt k y))))) = some s := h
        cases h
        refine ⟨_, rfl, fun w => ?_⟩
        rw [shAmt_eq]
        have hy : ¬ ((y : Nat) : Int) < 0 := by omega
        simp [binOp, Op.shift, hy]
        have e : ((2 : Int) ^ (min y k.bits)) = ((2 ^ (min y k.bits) : Nat) : Int) := by simp
        rw [e, ← Int.ofNat_fdiv]
        rfl
  · cases hb : Nat.beq (kN k) (kN k') with
    | false => rw [hb] at h; exact absurd (show (none : Option SV) = some s from h) (by simp)
    | true =>
      rw [hb] at h
      have := kN_inj hb
      subst this
      exact sameF_ok h
end Go.Proofs.YthenjjonphoklaaGreatDoor
