/-
  THE EXECUTOR, part S: put together.
-/
import Derived.Test.YthenjjonphoklaaGreatDoorSymR
set_option linter.unusedVariables false
set_option linter.unusedSimpArgs false
namespace Go.Proofs.YthenjjonphoklaaGreatDoor
open Go Go.RowKit

variable {P : Program} {w0 : Base}

theorem sOp_still : ∀ (st : Row) (o : Oper) (σ : SH) (s : SV) (σ' : SH), stillOp P o.op = true → sOp P st o σ = some (.val s σ') → σ' = σ := by
  intro st o σ s σ' hs h
  obtain ⟨d, op, ty, pos, af, g⟩ := o
  unfold sOp at h
  cases op <;> simp only [stillOp, Bool.false_eq_true] at hs <;> simp only at h
  case call c =>
    obtain ⟨callee, args, tys⟩ := c
    unfold sCallOp at h
    simp only at hs h
    split at hs
    · simp only at h; (repeat' split at h) <;> first | (cases h; done) | (cases h; rfl)
    · simp only at h; (repeat' split at h) <;> first | (cases h; done) | (cases h; rfl)
    · simp only at h; (repeat' split at h) <;> first | (cases h; done) | (cases h; rfl)
    · simp only at h; (repeat' split at h) <;> first | (cases h; done) | (cases h; rfl)
    · cases hs
  case convert S D x =>
    split at h
    · rename_i t ht
      have key : sConvert P σ S D t = some (.val s σ') → σ' = σ := by
        intro h
        unfold sConvert at h
        split at hs
        · rename_i k hu
          rw [hu] at h
          split at h
          · unfold sPure1 at h; (repeat' split at h) <;> first | (cases h; done) | (cases h; rfl)
          all_goals ((repeat' split at h) <;> first | (cases h; done) | (cases h; rfl) | (exfalso; simp_all; done))
        · rename_i hu
          rw [hu] at h
          split at h
          · unfold sPure1 at h; (repeat' split at h) <;> first | (cases h; done) | (cases h; rfl)
          all_goals ((repeat' split at h) <;> first | (cases h; done) | (cases h; rfl) | (exfalso; simp_all; done))
        · cases hs
      unfold sConvert2 at h
      split at h
      · split at h
        · rename_i e0 e h1 h2
          rw [h2] at hs; cases hs
        · exact key h
      · exact key h
    · cases h
  case build T ps => unfold sBuild at h; (repeat' split at h) <;> first | (cases h; done) | (cases h; rfl)
  case slice T x a b c => unfold sSlice at h; (repeat' split at h) <;> first | (cases h; done) | (cases h; rfl)
  case binOp op T x y B => unfold sBinary sBin sPure2 at h; (repeat' split at h) <;> first | (cases h; done) | (cases h; rfl)
  case typeAssert => unfold sAssert at h; (repeat' split at h) <;> first | (cases h; done) | (cases h; rfl)
  case lookup => unfold sLookup sLookupStr sLookupInt at h; (repeat' split at h) <;> first | (cases h; done) | (cases h; rfl)
  case entry => unfold sEntry at h; (repeat' split at h) <;> first | (cases h; done) | (cases h; rfl)
  case sliceToArrayPointer => unfold sArr at h; (repeat' split at h) <;> first | (cases h; done) | (cases h; rfl)
  case pick => unfold sPick at h; (repeat' split at h) <;> first | (cases h; done) | (cases h; rfl)
  case load => unfold sLoad at h; (repeat' split at h) <;> first | (cases h; done) | (cases h; rfl)
  case nilCheck => unfold sNilCheck at h; (repeat' split at h) <;> first | (cases h; done) | (cases h; rfl)
  case unOp => unfold sPure1 at h; (repeat' split at h) <;> first | (cases h; done) | (cases h; rfl)
  case makeInterface => unfold sMakeIface at h; (repeat' split at h) <;> first | (cases h; done) | (cases h; rfl)
  case fieldAddr => unfold sFieldAddr at h; (repeat' split at h) <;> first | (cases h; done) | (cases h; rfl)
  case field => unfold sField at h; (repeat' split at h) <;> first | (cases h; done) | (cases h; rfl)
  case indexAddr => unfold sIndexAddr at h; (repeat' split at h) <;> first | (cases h; done) | (cases h; rfl)
  case index => unfold sIndex at h; (repeat' split at h) <;> first | (cases h; done) | (cases h; rfl)
  case extract => unfold sExtract at h; (repeat' split at h) <;> first | (cases h; done) | (cases h; rfl)
  all_goals ((repeat' split at h) <;> first | (cases h; done) | (cases h; rfl))

theorem sOp_pure : ∀ (st : Row) (o : Oper) (σ : SH) (s : SV) (σ' σ1 : SH), pureOp o.op = true → sOp P st o σ = some (.val s σ') → ∃ σ2, sOp P st o σ1 = some (.val s σ2) := by
  intro st o σ s σ' σ1 hs h
  obtain ⟨d, op, ty, pos, af, g⟩ := o
  unfold sOp at h ⊢
  refine ⟨σ1, ?_⟩
  cases op <;> simp only [pureOp, Bool.false_eq_true] at hs <;> simp only at h ⊢
  case build T ps =>
    split at h
    · unfold sBuild at h ⊢; (repeat' split at h) <;> first | (cases h; done) | (cases h; simp only [*, if_true, if_false, Bool.false_eq_true]; done)
    · cases h
  case binOp op T x y B =>
    split at h
    · unfold sBinary sBin sPure2 at h ⊢; (repeat' split at h) <;> first | (cases h; done) | (cases h; simp only [*, if_true, if_false, Bool.false_eq_true]; done)
    · cases h
  case pick => unfold sPick at h ⊢; (repeat' split at h) <;> first | (cases h; done) | (cases h; simp only [*, if_true, if_false, Bool.false_eq_true]; done)
  case nilCheck => unfold sNilCheck at h ⊢; (repeat' split at h) <;> first | (cases h; done) | (cases h; simp only [*, if_true, if_false, Bool.false_eq_true]; done)
  case unOp => unfold sPure1 at h ⊢; (repeat' split at h) <;> first | (cases h; done) | (cases h; simp only [*, if_true, if_false, Bool.false_eq_true]; done)
  case makeInterface => unfold sMakeIface at h ⊢; (repeat' split at h) <;> first | (cases h; done) | (cases h; simp only [*, if_true, if_false, Bool.false_eq_true]; done)
  case fieldAddr => unfold sFieldAddr at h ⊢; (repeat' split at h) <;> first | (cases h; done) | (cases h; simp only [*, if_true, if_false, Bool.false_eq_true]; done)
  case field => unfold sField at h ⊢; (repeat' split at h) <;> first | (cases h; done) | (cases h; simp only [*, if_true, if_false, Bool.false_eq_true]; done)
  case indexAddr => unfold sIndexAddr at h ⊢; (repeat' split at h) <;> first | (cases h; done) | (cases h; simp only [*, if_true, if_false, Bool.false_eq_true]; done)
  case index => unfold sIndex at h ⊢; (repeat' split at h) <;> first | (cases h; done) | (cases h; simp only [*, if_true, if_false, Bool.false_eq_true]; done)
  case sliceToArrayPointer => unfold sArr at h ⊢; (repeat' split at h) <;> first | (cases h; done) | (cases h; simp only [*, if_true, if_false, Bool.false_eq_true]; done)
  case extract => unfold sExtract at h ⊢; (repeat' split at h) <;> first | (cases h; done) | (cases h; simp only [*, if_true, if_false, Bool.false_eq_true]; done)
  all_goals ((repeat' split at h) <;> first | (cases h; done) | (cases h; simp only [*, if_true, if_false, Bool.false_eq_true]; done))

/-- Numbers of which some remainders are known. -/
def lookR (m : Nat) : List (Nat × Nat) → Option Nat
  | [] => none
  | (m', r) :: t => if m = m' then some r else lookR m t
theorem lookR_ok {v : Int} {m r : Nat} : ∀ {fs : List (Nat × Nat)}, lookR m fs = some r → remsOk v fs = true → IntKind.u64.wrap v % (m : Nat) = (r : Nat) := by
  intro fs
  induction fs with
  | nil => intro h; cases h
  | cons p t ih =>
    intro h hr
    obtain ⟨m', r'⟩ := p
    simp only [lookR] at h
    simp only [remsOk, Bool.and_eq_true, decide_eq_true_eq] at hr
    split at h
    · rename_i hm; cases h; subst hm; exact hr.1
    · exact ih h hr.2
theorem lookL_ok {n c r : Nat} : ∀ {fs : List (Nat × Nat)}, lookR c fs = some r → lensOk n fs = true → decide (c < n) = decide (r = 1) := by
  intro fs
  induction fs with
  | nil => intro h; cases h
  | cons p t ih =>
    intro h hr
    obtain ⟨m', r'⟩ := p
    simp only [lookR] at h
    simp only [lensOk, Bool.and_eq_true, beq_iff_eq] at hr
    split at h
    · rename_i hm; cases h; subst hm; exact hr.1
    · exact ih h hr.2
theorem numOf'_int {x v : Value} {m r : Nat} {t : List (Nat × Nat)} {u : Bool} (h : numOf' x ((m + 1, r) :: t) u = some v) : ∃ n, x = .int .i64 n ∧ remsOk n ((m + 1, r) :: t) = true ∧ v = (if u then .int .u64 (IntKind.u64.wrap n) else .int .i64 n) := by
  cases x <;> simp only [numOf'] at h <;> try (cases h; done)
  rename_i k n
  cases k <;> simp only [numOf'] at h <;> try (cases h; done)
  split at h
  · rename_i hr; exact ⟨n, rfl, hr, (Option.some.inj h).symm⟩
  · cases h
theorem numOf'_str {x v : Value} {q : Nat} {t : List (Nat × Nat)} {u : Bool} (h : numOf' x ((0, q) :: t) u = some v) : ∃ s, x = .string s ∧ lensOk s.size t = true ∧ v = (if u then .int .i64 (s.size : Nat) else .string s) := by
  cases x <;> simp only [numOf'] at h <;> try (cases h; done)
  rename_i s
  split at h
  · rename_i hr; exact ⟨s, rfl, hr, (Option.some.inj h).symm⟩
  · cases h
noncomputable def sNum (P : Program) (st : Row) : Op → Option SV
  | .convert S D x => match evalS st x with
    | some (.num i ((m + 1, r) :: t) false) => match P.underlying S, P.underlying D with
      | some _, some (.int .u64) => some (.num i ((m + 1, r) :: t) true)
      | _, _ => none
    | _ => none
  | .binOp .rem T x y _ => match evalS st x, evalS st y with
    | some (.num i ((m0 + 1, r0) :: t) true), some (.int .u64 (.ofNat (m + 1))) => match lookR (m + 1) ((m0 + 1, r0) :: t) with
      | some r => some (.int .u64 (.ofNat r))
      | none => none
    | _, _ => none
  | .binOp .gtr T x y _ => match evalS st x, evalS st y with
    | some (.num i ((0, q) :: t) true), some (.int .i64 (.ofNat c)) => match lookR c t with
      | some r => some (.bool (decide (r = 1)))
      | none => none
    | _, _ => none
  | .call c => match c.callee, c.args.toList with
    | .builtin .len, [x] => match c.argTypes.toList, evalS st x with
      | [T], some (.num i ((0, q) :: t) false) => match P.underlying T with
        | some .string => some (.num i ((0, q) :: t) true)
        | _ => none
      | _, _ => none
    | .builtin .unsafeSliceData, [x] => match evalS st x with
      | some .nils => some .nilp
      | _ => none
    | .builtin .unsafeString, [x, y] => match c.argTypes.toList, evalS st x, evalS st y with
      | [_, _], some .nilp, some (.int .i64 (.ofNat 0)) => some (.str [])
      | _, _, _ => none
    | _, _ => none
  | _ => none
noncomputable def sOpN (P : Program) : OpF := fun st o σ => match sNum P st o.op with
  | some s => some (.val s σ)
  | none => sOp P st o σ
theorem wrap64_range (v : Int) : 0 ≤ IntKind.u64.wrap v := by
  simp only [IntKind.wrap, IntKind.bits, IntKind.signed]
  have : (0 : Int) ≤ v % 2 ^ 64 := Int.emod_nonneg _ (by decide)
  simpa using this
theorem sOpN_ok : OpSound P w0 (sOpN P) := by
  intro st o σ r env a w hs ho h hf
  unfold sOpN at hs
  split at hs
  · rename_i s hn; cases hs
    obtain ⟨d, op, ty, pos, af, g⟩ := o
    have E : ∀ {x : Operand} {s : SV}, evalS st x = some s → den env s = some (a.eval x) := fun hx => evalS_den hf.tmps hx
    unfold sNum at hn
    split at hn
    · rename_i S D x hop
      obtain rfl : op = .convert S D x := hop
      split at hn
      · rename_i i m r t hx
        split at hn
        · rename_i dS hS hD; cases hn
          have hv := E hx
          simp only [den] at hv
          obtain ⟨v, hg, hr, hv⟩ := numOf'_int hv
          simp only [Bool.false_eq_true, if_false] at hv
          refine .same (v := .int .u64 (IntKind.u64.wrap v)) ?_ h (by simp only [den, numOf', hg, hr, if_true])
          simp [execOp, convert, run_underlying hS, run_underlying hD, hv, Conv.intToInt]
        · cases hn
      · cases hn
    · rename_i T x y B hop
      obtain rfl : op = .binOp .rem T x y B := hop
      split at hn
      · rename_i i m0 r0 t m hx hy
        split at hn
        · rename_i r hl; cases hn
          have hv := E hx
          have hw := E hy
          simp only [den, Option.some.injEq] at hw
          simp only [den] at hv
          obtain ⟨v, hg, hr, hv⟩ := numOf'_int hv
          simp only [if_true] at hv
          have hmod := lookR_ok hl hr
          refine .same (v := .int .u64 (.ofNat r)) ?_ h rfl
          have h0 := wrap64_range v
          have ht : (IntKind.u64.wrap v).tmod ((m + 1 : Nat) : Int) = (r : Nat) := by rw [Int.tmod_eq_emod_of_nonneg h0]; exact hmod
          have hne : ¬ (((m + 1 : Nat) : Int) = 0) := by omega
          have hbin : ∀ w, (binOp .rem T (.int .u64 (IntKind.u64.wrap v)) (.int .u64 ((m + 1 : Nat) : Int))).run P w = .ok (.int .u64 (.ofNat r)) w := fun w => by
            simp only [binOp, Op.intDiv, if_neg hne, ht]
            simp
          have hg' : (eqGuard .rem T x y (.int .u64 (IntKind.u64.wrap v)) (.int .u64 ((m + 1 : Nat) : Int))).run P w = .ok () w := by simp [eqGuard]
          have hw' : a.eval y = .int .u64 ((m + 1 : Nat) : Int) := hw.symm
          simp only [execOp, hv, hw', Sem.run_bind, hg', Result.andThen_ok, hbin]
          rfl
        · cases hn
      · cases hn
    · rename_i T x y B hop
      obtain rfl : op = .binOp .gtr T x y B := hop
      split at hn
      · rename_i i q t c hx hy
        split at hn
        · rename_i r hl; cases hn
          have hv := E hx
          have hw := E hy
          simp only [den, Option.some.injEq] at hw
          simp only [den] at hv
          obtain ⟨s, hg, hr, hv⟩ := numOf'_str hv
          simp only [if_true] at hv
          have hlen := lookL_ok hl hr
          refine .same (v := .bool (decide (r = 1))) ?_ h rfl
          have hw' : a.eval y = .int .i64 ((c : Nat) : Int) := hw.symm
          have hg' : (eqGuard .gtr T x y (.int .i64 (s.size : Nat)) (.int .i64 ((c : Nat) : Int))).run P w = .ok () w := by simp [eqGuard]
          have hbin : (binOp .gtr T (.int .i64 (s.size : Nat)) (.int .i64 ((c : Nat) : Int))).run P w = .ok (.bool (decide (r = 1))) w := by
            rw [← hlen]
            have : decide (((c : Nat) : Int) < ((s.size : Nat) : Int)) = decide (c < s.size) := by rw [decide_eq_decide]; omega
            simp [binOp, Op.intCmp]
          simp only [execOp, hv, hw', Sem.run_bind, hg', Result.andThen_ok, hbin]
          rfl
        · cases hn
      · cases hn
    · rename_i c hop
      obtain rfl : op = .call c := hop
      obtain ⟨callee, args, tys⟩ := c
      simp only at hn
      split at hn
      · rename_i x ha
        split at hn
        · rename_i T i q t ht hx
          split at hn
          · rename_i hu; cases hn
            have hv := E hx
            simp only [den] at hv
            obtain ⟨s, hg, hr, hv⟩ := numOf'_str hv
            simp only [Bool.false_eq_true, if_false] at hv
            have e1 : args = #[x] := by cases args; simp_all
            have e2 : tys = #[T] := by cases tys; simp_all
            subst e1; subst e2
            refine .same (v := .int .i64 (s.size : Nat)) ?_ h (by simp only [den, numOf', hg, hr, if_true])
            simp [execOp, resolve, invoke, builtin, hv, Builtin.len_, underlying, hu, goInt]
          · cases hn
        · cases hn
      · rename_i x ha
        split at hn
        · rename_i hx; cases hn
          have hv := E hx
          simp only [den, Option.some.injEq] at hv
          have e1 : args = #[x] := by cases args; simp_all
          subst e1
          have hrun : ∀ w, (Builtin.unsafeSliceData_ tys ty #[.slice none 0 0]).run P w = .ok (.pointer none) w := fun w => rfl
          exact .same (v := .pointer none) (by simp [execOp, resolve, invoke, builtin, ← hv, hrun]) h rfl
        · cases hn
      · rename_i x y ha
        split at hn
        · rename_i t1 t2 ht hx hy; cases hn
          have hv := E hx
          have hw := E hy
          simp only [den, Option.some.injEq] at hv hw
          have e1 : args = #[x, y] := by cases args; simp_all
          have e2 : tys = #[t1, t2] := by cases tys; simp_all
          subst e1; subst e2
          have hrun : ∀ w, (Builtin.unsafeString_ #[t1, t2] ty #[.pointer none, .int .i64 (Int.ofNat 0)]).run P w = .ok (.string .empty) w := fun w => rfl
          exact .same (v := .string .empty) (by simp only [execOp, resolve, invoke, builtin, List.map_toArray, List.map_cons, List.map_nil, ← hv, ← hw, Sem.run_bind, Sem.run_pure, Result.andThen_ok, hrun]) h rfl
        · cases hn
      · cases hn
    · cases hn
  · exact sOp_ok st o σ r env a w hs ho h hf
theorem sNum_cong {st st' : Row} {op : Op} (E : ∀ x ∈ op.operands, evalS st x = evalS st' x) : sNum P st op = sNum P st' op := by
  unfold sNum
  split
  · rw [E _ (by simp [Op.operands])]
  · rw [E _ (by simp [Op.operands]), E _ (by simp [Op.operands])]
  · rw [E _ (by simp [Op.operands]), E _ (by simp [Op.operands])]
  · rename_i c
    have ha : ∀ x ∈ c.args.toList, evalS st x = evalS st' x := fun x hx => E x (by simp [Op.operands, Call.operands, Array.mem_toList_iff.1 hx])
    split
    · rename_i x h1 h2; rw [ha x (by rw [h2]; simp)]
    · rename_i x h1 h2; rw [ha x (by rw [h2]; simp)]
    · rename_i x y h1 h2; rw [ha x (by rw [h2]; simp), ha y (by rw [h2]; simp)]
    · rfl
  · rfl
theorem sOpN_cong : OpCong (sOpN P) := by
  intro ops st st' o σ h
  have E : ∀ x ∈ o.op.operands, evalS st x = evalS st' x := fun x hx => evalS_cong fun t ht => h t (by
    subst ht
    exact List.mem_append_left _ (List.mem_filterMap.2 ⟨.tmp t, by simpa using hx, rfl⟩))
  unfold sOpN
  rw [sNum_cong E, sOp_cong ops st st' o σ h]
theorem sOpN_still : ∀ (st : Row) (o : Oper) (σ : SH) (s : SV) (σ' : SH), stillOp P o.op = true → sOpN P st o σ = some (.val s σ') → σ' = σ := by
  intro st o σ s σ' hs h
  unfold sOpN at h
  split at h
  · cases h; rfl
  · exact sOp_still st o σ s σ' hs h
theorem sOpN_pure : ∀ (st : Row) (o : Oper) (σ : SH) (s : SV) (σ' σ1 : SH), pureOp o.op = true → sOpN P st o σ = some (.val s σ') → ∃ σ2, sOpN P st o σ1 = some (.val s σ2) := by
  intro st o σ s σ' σ1 hs h
  unfold sOpN at h ⊢
  split at h
  · rename_i s' hn; cases h; exact ⟨σ1, rfl⟩
  · rename_i hn
    obtain ⟨σ2, h2⟩ := sOp_pure st o σ s σ' σ1 hs h
    exact ⟨σ2, h2⟩
end Go.Proofs.YthenjjonphoklaaGreatDoor
