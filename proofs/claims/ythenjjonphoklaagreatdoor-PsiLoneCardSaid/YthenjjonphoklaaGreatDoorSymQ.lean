/-
  THE EXECUTOR, part Q: equality of symbolic values; what operations look at; operations that leave the heap alone.
-/
import Derived.Test.YthenjjonphoklaaGreatDoorSymO
import Derived.Test.YthenjjonphoklaaGreatDoorSymP
set_option linter.unusedVariables false
set_option linter.unusedSimpArgs false
namespace Go.Proofs.YthenjjonphoklaaGreatDoor
open Go Go.RowKit

variable {P : Program}

def eqCap : SCap → SCap → Bool
  | .lit a, .lit b => a == b
  | .rest a, .rest b => a == b
  | _, _ => false
theorem eqCap_ok {a b : SCap} (h : eqCap a b = true) : a = b := by
  cases a <;> cases b <;> simp only [eqCap, Bool.false_eq_true, beq_iff_eq] at h <;> first | (subst h; rfl) | cases h
mutual
def eqS : SV → SV → Bool
  | .int k n, .int k' n' => decide (k = k') && decide (n = n')
  | .bool a, .bool b => a == b
  | .str a, .str b => a == b
  | .undef, .undef => true
  | .nilp, .nilp => true
  | .ptr n o, .ptr n' o' => n == n' && o == o'
  | .gptr n o, .gptr n' o' => n == n' && o == o'
  | .slice n o l c, .slice n' o' l' c' => n == n' && o == o' && l == l' && eqCap c c'
  | .nils, .nils => true
  | .zslice n o a z d, .zslice n' o' a' z' d' => n == n' && o == o' && a == a' && z == z' && d == d'
  | .map n, .map n' => n == n'
  | .nilm, .nilm => true
  | .fn f a b, .fn f' a' b' => decide (f = f') && eqSL a a' && eqSL b b'
  | .nilf, .nilf => true
  | .iface t v, .iface t' v' => t == t' && eqS v v'
  | .nili, .nili => true
  | .agg a, .agg b => eqSL a b
  | .tuple a, .tuple b => eqSL a b
  | .opq i, .opq j => i == j
  | _, _ => false
def eqSL : List SV → List SV → Bool
  | [], [] => true
  | a :: r, b :: s => eqS a b && eqSL r s
  | _, _ => false
end
mutual
theorem eqS_ok : ∀ (a b : SV), eqS a b = true → a = b
  | .int k n, b, h => by cases b <;> simp only [eqS, Bool.false_eq_true, Bool.and_eq_true, decide_eq_true_eq] at h <;> (obtain ⟨rfl, rfl⟩ := h; rfl)
  | .bool a, b, h => by cases b <;> simp only [eqS, Bool.false_eq_true, beq_iff_eq] at h <;> (subst h; rfl)
  | .str a, b, h => by cases b <;> simp only [eqS, Bool.false_eq_true, beq_iff_eq] at h <;> (subst h; rfl)
  | .undef, b, h => by cases b <;> simp only [eqS, Bool.false_eq_true] at h <;> rfl
  | .nilp, b, h => by cases b <;> simp only [eqS, Bool.false_eq_true] at h <;> rfl
  | .ptr n o, b, h => by cases b <;> simp only [eqS, Bool.false_eq_true, Bool.and_eq_true, beq_iff_eq] at h <;> (obtain ⟨rfl, rfl⟩ := h; rfl)
  | .gptr n o, b, h => by cases b <;> simp only [eqS, Bool.false_eq_true, Bool.and_eq_true, beq_iff_eq] at h <;> (obtain ⟨rfl, rfl⟩ := h; rfl)
  | .slice n o l c, b, h => by
    cases b <;> simp only [eqS, Bool.false_eq_true, Bool.and_eq_true, beq_iff_eq] at h
    rename_i n' o' l' c'
    rcases h with ⟨⟨⟨rfl, rfl⟩, rfl⟩, h⟩
    rw [eqCap_ok h]
  | .nils, b, h => by cases b <;> simp only [eqS, Bool.false_eq_true] at h <;> rfl
  | .num _ _ _, b, h => by cases b <;> simp only [eqS, Bool.false_eq_true] at h
  | .zslice n o a z d, b, h => by
    cases b <;> simp only [eqS, Bool.false_eq_true, Bool.and_eq_true, beq_iff_eq] at h
    obtain ⟨⟨⟨⟨rfl, rfl⟩, rfl⟩, rfl⟩, rfl⟩ := h
    rfl
  | .map n, b, h => by cases b <;> simp only [eqS, Bool.false_eq_true, beq_iff_eq] at h <;> (subst h; rfl)
  | .nilm, b, h => by cases b <;> simp only [eqS, Bool.false_eq_true] at h <;> rfl
  | .fn f x y, b, h => by
    cases b <;> simp only [eqS, Bool.false_eq_true, Bool.and_eq_true, decide_eq_true_eq] at h
    rcases h with ⟨⟨rfl, h1⟩, h2⟩
    rw [eqSL_ok x _ h1, eqSL_ok y _ h2]
  | .nilf, b, h => by cases b <;> simp only [eqS, Bool.false_eq_true] at h <;> rfl
  | .iface t v, b, h => by
    cases b <;> simp only [eqS, Bool.false_eq_true, Bool.and_eq_true, beq_iff_eq] at h
    rcases h with ⟨rfl, h2⟩
    rw [eqS_ok v _ h2]
  | .nili, b, h => by cases b <;> simp only [eqS, Bool.false_eq_true] at h <;> rfl
  | .agg x, b, h => by
    cases b <;> simp only [eqS, Bool.false_eq_true] at h
    rw [eqSL_ok x _ h]
  | .tuple x, b, h => by
    cases b <;> simp only [eqS, Bool.false_eq_true] at h
    rw [eqSL_ok x _ h]
  | .opq n, b, h => by cases b <;> simp only [eqS, Bool.false_eq_true, beq_iff_eq] at h <;> (subst h; rfl)
theorem eqSL_ok : ∀ (a b : List SV), eqSL a b = true → a = b
  | [], b, h => by cases b <;> simp only [eqSL, Bool.false_eq_true] at h <;> rfl
  | x :: r, b, h => by
    cases b <;> simp only [eqSL, Bool.false_eq_true, Bool.and_eq_true] at h
    rw [eqS_ok x _ h.1, eqSL_ok r _ h.2]
end

/-- Operations look at their operands alone. -/
theorem evalS_cong {st st' : Row} {x : Operand} (h : ∀ t, x = .tmp t → st.at t = st'.at t) : evalS st x = evalS st' x := by
  cases x with
  | tmp t => simp only [evalS, h t rfl]
  | _ => rfl
theorem evalL_cong {st st' : Row} : ∀ {xs : List Operand}, (∀ x ∈ xs, evalS st x = evalS st' x) → evalL st xs = evalL st' xs := by
  intro xs
  induction xs with
  | nil => intro _; rfl
  | cons x r ih => intro h; simp only [evalL]; rw [h x (by simp), ih (fun y hy => h y (by simp [hy]))]
theorem intO_cong {st st' : Row} {x : Option Operand} (h : ∀ y ∈ x.toList, evalS st y = evalS st' y) : intO st x = intO st' x := by
  cases x with
  | none => rfl
  | some y => simp only [intO]; rw [h y (by simp)]
theorem sCallOp_cong {st st' : Row} {c : Call} {σ : SH} (h : ∀ x ∈ c.operands, evalS st x = evalS st' x) : sCallOp P st c σ = sCallOp P st' c σ := by
  obtain ⟨callee, args, tys⟩ := c
  have ha : ∀ x ∈ args.toList, evalS st x = evalS st' x := fun x hx => h x (by simp [Call.operands, Array.mem_toList_iff.1 hx])
  unfold sCallOp
  simp only
  split
  · split
    · rename_i x T h1 h2; rw [ha x (by rw [h1]; simp)]
    · rfl
  · split
    · rename_i x T h1 h2; rw [ha x (by rw [h1]; simp)]
    · rfl
  · split
    · rename_i x y T T' h1 h2; rw [ha x (by rw [h1]; simp), ha y (by rw [h1]; simp)]
    · rfl
  · split
    · rename_i x y T T' h1 h2; rw [ha x (by rw [h1]; simp), ha y (by rw [h1]; simp)]
    · rfl
  · split
    · rename_i x y h1; rw [ha x (by rw [h1]; simp), ha y (by rw [h1]; simp)]
    · rfl
  · split
    · rename_i x y h1; rw [ha x (by rw [h1]; simp), ha y (by rw [h1]; simp)]
    · rfl
  · rename_i f
    rw [h f (by simp [Call.operands]), evalL_cong ha]
  · rename_i f name
    rw [h f (by simp [Call.operands]), evalL_cong ha]
  · rfl
theorem sOp_cong : OpCong (sOp P) := by
  intro ops st st' o σ h
  have E : ∀ x ∈ o.op.operands, evalS st x = evalS st' x := fun x hx => evalS_cong fun t ht => h t (by
    subst ht
    exact List.mem_append_left _ (List.mem_filterMap.2 ⟨.tmp t, by simpa using hx, rfl⟩))
  obtain ⟨d, op, ty, pos, af, g⟩ := o
  simp only at E
  unfold sOp
  cases op <;> simp only
  case move x => rw [E x (by simp [Op.operands])]
  case assign x => rw [E x (by simp [Op.operands])]
  case pick c x y => rw [E c (by simp [Op.operands]), E x (by simp [Op.operands]), E y (by simp [Op.operands])]
  case box T x => rw [E x (by simp [Op.operands])]
  case build T ps => rw [evalL_cong fun x hx => E x (by simpa [Op.operands] using hx)]
  case buildSlice T n ps => rw [evalL_cong fun x hx => E x (by simpa [Op.operands] using hx)]
  case load T x => rw [E x (by simp [Op.operands])]
  case store T x y => rw [E x (by simp [Op.operands]), E y (by simp [Op.operands])]
  case nilCheck x => rw [E x (by simp [Op.operands])]
  case binOp op T x y B => rw [E x (by simp [Op.operands]), E y (by simp [Op.operands])]
  case unOp op T x => rw [E x (by simp [Op.operands])]
  case convert S D x => rw [E x (by simp [Op.operands])]
  case makeInterface T x => rw [E x (by simp [Op.operands])]
  case makeFunc f xs ys => rw [evalL_cong fun x hx => E x (by simp [Op.operands, Array.mem_toList_iff.1 hx]), evalL_cong fun x hx => E x (by simp [Op.operands, Array.mem_toList_iff.1 hx])]
  case slice T x lo hi mx =>
    rw [E x (by simp [Op.operands]), intO_cong fun y hy => E y (by simp only [Option.mem_toList, Option.mem_def] at hy; subst hy; simp [Op.operands]), intO_cong fun y hy => E y (by simp only [Option.mem_toList, Option.mem_def] at hy; subst hy; simp [Op.operands]), intO_cong fun y hy => E y (by simp only [Option.mem_toList, Option.mem_def] at hy; subst hy; simp [Op.operands])]
  case makeMap T r0 => cases r0 <;> rfl
  case fieldAddr S x f => rw [E x (by simp [Op.operands])]
  case field S x f => rw [E x (by simp [Op.operands])]
  case indexAddr T x i => rw [E x (by simp [Op.operands]), E i (by simp [Op.operands])]
  case index T x i => rw [E x (by simp [Op.operands]), E i (by simp [Op.operands])]
  case extract x i => rw [E x (by simp [Op.operands])]
  case makeSlice T x y => rw [E x (by simp [Op.operands]), E y (by simp [Op.operands])]
  case typeAssert x X A ok => rw [E x (by simp [Op.operands])]
  case lookup T x k ok => rw [E x (by simp [Op.operands]), E k (by simp [Op.operands])]
  case mapUpdate T x k v => rw [E x (by simp [Op.operands]), E k (by simp [Op.operands]), E v (by simp [Op.operands])]
  case range T x => rw [E x (by simp [Op.operands])]
  case next x b => rw [E x (by simp [Op.operands])]
  case entry x => rw [E x (by simp [Op.operands])]
  case sliceToArrayPointer T x => rw [E x (by simp [Op.operands])]
  case call c => exact sCallOp_cong fun x hx => E x (by simpa [Op.operands] using hx)

/-- Operations that leave the heap alone. -/
def stillOp (P : Program) : Op → Bool
  | .convert _ D _ => match P.underlying D with
    | some (.int _) | some .string => true
    | _ => false
  | .move _ | .assign _ | .pick _ _ _ | .load _ _ | .nilCheck _ | .binOp _ _ _ _ _ | .unOp _ _ _ | .fieldAddr _ _ _ | .field _ _ _ | .indexAddr _ _ _ | .index _ _ _ | .extract _ _ | .makeInterface _ _ | .makeFunc _ _ _ | .build _ _ | .slice _ _ _ _ _ | .typeAssert _ _ _ _ | .lookup _ _ _ _ | .entry _ | .sliceToArrayPointer _ _ => true
  | .call c => match c.callee with
    | .builtin .len | .builtin .cap | .builtin .min | .builtin .max => true
    | _ => false
  | _ => false
/-- Operations that do not look at the heap. -/
def pureOp : Op → Bool
  | .move _ | .assign _ | .pick _ _ _ | .nilCheck _ | .binOp _ _ _ _ _ | .unOp _ _ _ | .fieldAddr _ _ _ | .field _ _ _ | .indexAddr _ _ _ | .index _ _ _ | .extract _ _ | .makeInterface _ _ | .makeFunc _ _ _ | .build _ _ | .sliceToArrayPointer _ _ => true
  | _ => false
end Go.Proofs.YthenjjonphoklaaGreatDoor
