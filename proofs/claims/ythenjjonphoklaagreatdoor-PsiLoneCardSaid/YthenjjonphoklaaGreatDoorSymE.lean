/-
  THE EXECUTOR, part E: operations that compute, addresses.
-/
import Derived.Test.YthenjjonphoklaaGreatDoorSymY
set_option linter.unusedVariables false
set_option linter.unusedSimpArgs false
namespace Go.Proofs.YthenjjonphoklaaGreatDoor
open Go Go.RowKit

variable {P : Program} {w0 : Base} {env : Env} {σ : SH} {w : World}

/-- A computation that asks for nothing but the program. -/
def pureRun {α : Type} (P : Program) : Sem α → Option α
  | .pure a => some a
  | .program k => pureRun P (k P)
  | _ => none
theorem pureRun_ok {α : Type} : ∀ {t : Sem α} {a : α}, pureRun P t = some a → ∀ w, t.run P w = .ok a w := by
  intro t
  induction t with
  | pure a => intro b h w; simp only [pureRun] at h; cases h; rfl
  | program k ih => intro b h w; simp only [pureRun] at h; exact ih P h w
  | _ => intro b h; simp only [pureRun] at h; cases h

/-- Numbers and truth values. -/
def plainV : SV → Option Value
  | .int k n => some (.int k n)
  | .bool b => some (.bool b)
  | _ => none
theorem plainV_den {s : SV} {v : Value} (h : plainV s = some v) : den env s = some v := by
  cases s <;> simp only [plainV] at h <;> first | (cases h; done) | (simp only [den]; exact h)

noncomputable def sPure2 (P : Program) (σ : SH) (t : Value → Value → Sem Value) (a b : SV) : Option SR := match plainV a, plainV b with
  | some x, some y => match pureRun P (t x y) with
    | some v => match ofCell v with
      | some s => some (.val s σ)
      | none => none
    | none => none
  | _, _ => none
theorem sPure2_spec {t : Value → Value → Sem Value} {a b : SV} {r : SR} (hs : sPure2 P σ t a b = some r) {x y : Value} (h1 : den env a = some x) (h2 : den env b = some y) :
    ∃ v s, r = .val s σ ∧ den env s = some v ∧ (∀ w, (t x y).run P w = .ok v w) := by
  unfold sPure2 at hs
  split at hs
  · rename_i x' y' hx hy
    rw [plainV_den hx] at h1; cases h1
    rw [plainV_den hy] at h2; cases h2
    split at hs
    · rename_i v hv
      split at hs
      · rename_i s hsv; cases hs
        exact ⟨v, s, rfl, ofCell_den hsv, pureRun_ok hv⟩
      · cases hs
    · cases hs
  · cases hs

/-- Two strings. -/
def ltBytes : List Nat → List Nat → Bool
  | _, [] => false
  | [], _ :: _ => true
  | a :: x, b :: y => decide (a % 256 < b % 256) || (a % 256 == b % 256 && ltBytes x y)
def eqBytes : List Nat → List Nat → Bool
  | [], [] => true
  | a :: x, b :: y => a % 256 == b % 256 && eqBytes x y
  | _, _ => false
theorem toList_data' (s : ByteArray) : s.toList = s.data.toList := by
  obtain ⟨⟨l⟩⟩ := s
  have hl : ∀ (m i : Nat) (r : List UInt8), m = l.length - i → ByteArray.toList.loop ⟨⟨l⟩⟩ i r = r.reverse ++ l.drop i := by
    intro m
    induction m with
    | zero =>
      intro i r hm
      rw [ByteArray.toList.loop]
      have : ¬ i < (⟨⟨l⟩⟩ : ByteArray).size := by simp [ByteArray.size]; omega
      rw [if_neg this, List.drop_eq_nil_of_le (by omega)]; simp
    | succ m ih =>
      intro i r hm
      rw [ByteArray.toList.loop]
      have hi : i < l.length := by omega
      have : i < (⟨⟨l⟩⟩ : ByteArray).size := by simpa [ByteArray.size] using hi
      rw [if_pos this, ih (i + 1) _ (by omega)]
      have e : (⟨⟨l⟩⟩ : ByteArray).get! i = l[i] := by simp [ByteArray.get!, hi]
      rw [e, List.reverse_cons, List.append_assoc, List.drop_eq_getElem_cons hi]; rfl
  unfold ByteArray.toList
  rw [hl _ 0 [] rfl]; simp
theorem bytesOf_list (l : List Nat) : (bytesOf l).data.toList = l.map UInt8.ofNat := by unfold bytesOf; simp
theorem u8_eq (a b : Nat) : (UInt8.ofNat a == UInt8.ofNat b) = (a % 256 == b % 256) := by
  rw [Bool.eq_iff_iff, beq_iff_eq, beq_iff_eq]
  constructor
  · intro h
    have := congrArg UInt8.toNat h
    simpa using this
  · intro h
    apply UInt8.toNat_inj.1
    simpa using h
theorem u8_lt (a b : Nat) : decide (UInt8.ofNat a < UInt8.ofNat b) = decide (a % 256 < b % 256) := by
  rw [decide_eq_decide, UInt8.lt_iff_toNat_lt]; simp
theorem ltBytes_spec : ∀ (a b : List Nat), Op.bytesLess (a.map UInt8.ofNat) (b.map UInt8.ofNat) = ltBytes a b := by
  intro a
  induction a with
  | nil => intro b; cases b <;> rfl
  | cons x r ih =>
    intro b
    cases b with
    | nil => rfl
    | cons y t => simp only [List.map_cons, Op.bytesLess, ltBytes, u8_eq, u8_lt, ih]
theorem eqBytes_spec : ∀ (a b : List Nat), ((a.map UInt8.ofNat) == (b.map UInt8.ofNat)) = eqBytes a b := by
  intro a
  induction a with
  | nil => intro b; cases b <;> rfl
  | cons x r ih =>
    intro b
    cases b with
    | nil => rfl
    | cons y t => simp only [List.map_cons, List.cons_beq_cons, eqBytes, u8_eq, ih]
theorem bytesOf_append (a b : List Nat) : bytesOf (a ++ b) = bytesOf a ++ bytesOf b := by
  apply ByteArray.ext
  rw [ByteArray.data_append]
  unfold bytesOf; simp
theorem bytesOf_size (a : List Nat) : (bytesOf a).size = a.length := by unfold bytesOf; simp [ByteArray.size]
noncomputable def eqBytesR (l : List Nat) : List Nat → Bool := @List.rec Nat (fun _ => List Nat → Bool) (fun m => @List.rec Nat (fun _ => Bool) true (fun _ _ _ => false) m) (fun a _ ih m => @List.rec Nat (fun _ => Bool) false (fun b y _ => @Bool.rec (fun _ => Bool) false (ih y) (Nat.beq (Nat.mod a 256) (Nat.mod b 256))) m) l
theorem beq_nat (a b : Nat) : Nat.beq a b = (a == b) := by
  cases h : Nat.beq a b with
  | true => have := Nat.eq_of_beq_eq_true h; subst this; simp
  | false => have := Nat.ne_of_beq_eq_false h; simp [this]
theorem eqBytesR_eq : ∀ (l m : List Nat), eqBytesR l m = eqBytes l m := by
  intro l
  induction l with
  | nil => intro m; cases m <;> rfl
  | cons a x ih =>
    intro m
    cases m with
    | nil => rfl
    | cons b y =>
      show @Bool.rec (fun _ => Bool) false (eqBytesR x y) (Nat.beq (a % 256) (b % 256)) = _
      rw [ih, beq_nat]
      simp only [eqBytes]
      cases (a % 256 == b % 256) <;> rfl
noncomputable def ltBytesR (l : List Nat) : List Nat → Bool := @List.rec Nat (fun _ => List Nat → Bool) (fun m => @List.rec Nat (fun _ => Bool) false (fun _ _ _ => true) m) (fun a _ ih m => @List.rec Nat (fun _ => Bool) false (fun b y _ => @Bool.rec (fun _ => Bool) (@Bool.rec (fun _ => Bool) false (ih y) (Nat.beq (Nat.mod a 256) (Nat.mod b 256))) true (Nat.blt (Nat.mod a 256) (Nat.mod b 256))) m) l
theorem ltBytesR_eq : ∀ (l m : List Nat), ltBytesR l m = ltBytes l m := by
  intro l
  induction l with
  | nil => intro m; cases m <;> rfl
  | cons a x ih =>
    intro m
    cases m with
    | nil => rfl
    | cons b y =>
      show @Bool.rec (fun _ => Bool) (@Bool.rec (fun _ => Bool) false (ltBytesR x y) (Nat.beq (a % 256) (b % 256))) true (Nat.ble (a % 256 + 1) (b % 256)) = _
      rw [ih, beq_nat, ble_dec]
      simp only [ltBytes, Nat.lt_iff_add_one_le]
      cases decide (a % 256 + 1 ≤ b % 256) <;> cases (a % 256 == b % 256) <;> rfl
noncomputable def sStr (op : BinOp) (a b : List Nat) : Option SV := match op with
  | .add => if (lenR a) + (lenR b) ≤ 9223372036854775807 then some (.str (appR a b)) else none
  | .eql => some (.bool (eqBytesR a b))
  | .neq => some (.bool !(eqBytesR a b))
  | .lss => some (.bool (ltBytesR a b))
  | .leq => some (.bool (ltBytesR a b || eqBytesR a b))
  | .gtr => some (.bool !(ltBytesR a b || eqBytesR a b))
  | .geq => some (.bool !(ltBytesR a b))
  | _ => none
theorem sStr_ok {op : BinOp} {a b : List Nat} {s : SV} (hs : sStr op a b = some s) : ∃ v, den env s = some v ∧ ∀ w, (Op.stringOp op (bytesOf a) (bytesOf b)).run P w = .ok v w := by
  have e1 : (bytesOf a).toList = a.map UInt8.ofNat := by rw [toList_data', bytesOf_list]
  have e2 : (bytesOf b).toList = b.map UInt8.ofNat := by rw [toList_data', bytesOf_list]
  cases op <;> simp only [sStr, eqBytesR_eq, ltBytesR_eq, appR_eq, lenR_eq] at hs <;> first
    | (cases hs; done)
    | (cases hs; refine ⟨_, rfl, fun w => ?_⟩; simp only [Op.stringOp, e1, e2, ltBytes_spec, eqBytes_spec]; rfl)
    | skip
  split at hs
  · rename_i hl; cases hs
    refine ⟨_, rfl, fun w => ?_⟩
    rw [bytesOf_append]
    have : ¬ (((bytesOf a).size + (bytesOf b).size : Nat) : Int) > IntKind.i64.max := by
      rw [bytesOf_size, bytesOf_size, show IntKind.i64.max = 9223372036854775807 from rfl]; omega
    simp only [Op.stringOp, if_neg this]; rfl
  · cases hs
/-- A binary operation. -/
noncomputable def sNil : SV → Bool
  | .nilp | .nils | .nilm | .nilf | .nili => true
  | _ => false
noncomputable def sBin (P : Program) (σ : SH) (op : BinOp) (T : TypeId) (x y : Operand) (a b : SV) : Option SR :=
  match a, b with
  | .str l, .str m => match sStr op l m with
    | some s => some (.val s σ)
    | none => none
  | .int k m, .int k' n => match intF op k k' m n with
    | some s => some (.val s σ)
    | none => sPure2 P σ (fun u v => do eqGuard op T x y u v; binOp op T u v) (.int k m) (.int k' n)
  | a, b => sPure2 P σ (fun u v => do eqGuard op T x y u v; binOp op T u v) a b

theorem binOp_str (op : BinOp) (T : TypeId) (a b : ByteArray) : binOp op T (.string a) (.string b) = Op.stringOp op a b := by cases op <;> rfl
theorem eqGuard_str (op : BinOp) (T : TypeId) (x y : Operand) (a b : ByteArray) (w : World) : (eqGuard op T x y (.string a) (.string b)).run P w = .ok () w := by cases op <;> simp [eqGuard]
theorem sBin_ok (h : Rel P w0 env σ w) {op : BinOp} {T B : TypeId} {x y : Operand} {a b : SV} {r : SR} (hs : sBin P σ op T x y a b = some r) {ρ : Operand → Value} (h1 : den env a = some (ρ x)) (h2 : den env b = some (ρ y)) (d : Option Tmp) (ty : TypeId) (pos : String) (af : Array Edge) (g : Option (Nat × Bool)) :
    Outcome P w0 env ((execOp ρ ⟨d, .binOp op T x y B, ty, pos, af, g⟩).run P w) r := by
  unfold sBin at hs
  split at hs
  · rename_i l m
    split at hs
    · rename_i s hst; cases hs
      obtain ⟨v, hd, hrun⟩ := sStr_ok (env := env) (P := P) hst
      simp only [den, Option.some.injEq] at h1 h2
      refine .same (v := v) ?_ h hd
      simp only [execOp, ← h1, ← h2, Sem.run_bind, eqGuard_str, Result.andThen_ok, binOp_str, hrun]
      rfl
    · cases hs
  · rename_i k m k' n
    split at hs
    · rename_i s hi; cases hs
      simp only [den, Option.some.injEq] at h1 h2
      obtain ⟨v, hd, hrun⟩ := intF_ok (env := env) (P := P) (T := T) hi
      refine .same (v := v) ?_ h hd
      have hg : (eqGuard op T x y (.int k m) (.int k' n)).run P w = .ok () w := by cases op <;> simp [eqGuard]
      simp only [execOp, ← h1, ← h2, Sem.run_bind, hg, Result.andThen_ok, hrun]
      rfl
    · obtain ⟨v, s, rfl, hd, hrun⟩ := sPure2_spec (env := env) (P := P) hs h1 h2
      refine .same (v := v) ?_ h hd
      have := hrun w
      simp only [execOp, Sem.run_bind] at this ⊢
      rw [this]; rfl
  · obtain ⟨v, s, rfl, hd, hrun⟩ := sPure2_spec (env := env) (P := P) hs h1 h2
    refine .same (v := v) ?_ h hd
    have := hrun w
    simp only [execOp, Sem.run_bind] at this ⊢
    rw [this]; rfl

noncomputable def sPure1 (P : Program) (σ : SH) (t : Value → Sem Value) (a : SV) : Option SR := match plainV a with
  | some x => match pureRun P (t x) with
    | some v => match ofCell v with
      | some s => some (.val s σ)
      | none => none
    | none => none
  | none => none
theorem sPure1_spec {t : Value → Sem Value} {a : SV} {r : SR} (hs : sPure1 P σ t a = some r) {x : Value} (h1 : den env a = some x) :
    ∃ v s, r = .val s σ ∧ den env s = some v ∧ (∀ w, (t x).run P w = .ok v w) := by
  unfold sPure1 at hs
  split at hs
  · rename_i x' hx
    rw [plainV_den hx] at h1; cases h1
    split at hs
    · rename_i v hv
      split at hs
      · rename_i s hsv; cases hs
        exact ⟨v, s, rfl, ofCell_den hsv, pureRun_ok hv⟩
      · cases hs
    · cases hs
  · cases hs
theorem sUn_ok (h : Rel P w0 env σ w) {op : UnOp} {T : TypeId} {x : Operand} {a : SV} {r : SR} (hs : sPure1 P σ (Op.unary op) a = some r) {ρ : Operand → Value} (h1 : den env a = some (ρ x)) (d : Option Tmp) (ty : TypeId) (pos : String) (af : Array Edge) (g : Option (Nat × Bool)) :
    Outcome P w0 env ((execOp ρ ⟨d, .unOp op T x, ty, pos, af, g⟩).run P w) r := by
  obtain ⟨v, s, rfl, hd, hrun⟩ := sPure1_spec (env := env) (P := P) hs h1
  exact .same (v := v) (by simp [execOp, hrun]) h hd
theorem sConv_ok (h : Rel P w0 env σ w) {S D : TypeId} {x : Operand} {a : SV} {r : SR} (hs : sPure1 P σ (convert S D) a = some r) {ρ : Operand → Value} (h1 : den env a = some (ρ x)) (d : Option Tmp) (ty : TypeId) (pos : String) (af : Array Edge) (g : Option (Nat × Bool)) :
    Outcome P w0 env ((execOp ρ ⟨d, .convert S D x, ty, pos, af, g⟩).run P w) r := by
  obtain ⟨v, s, rfl, hd, hrun⟩ := sPure1_spec (env := env) (P := P) hs h1
  exact .same (v := v) (by simp [execOp, hrun]) h hd

/-- How many cells a type takes. -/
def ssize (P : Program) (T : TypeId) : Option Nat := match P.info? T with
  | some i => some i.size
  | none => none
theorem ssize_ok {T : TypeId} {n : Nat} (h : ssize P T = some n) (w : World) : (sizeOf T).run P w = .ok n w := by
  unfold ssize at h
  split at h
  · rename_i i hi; cases h; simp [sizeOf, typeInfo, hi]
  · cases h

noncomputable def sFieldAddr (P : Program) (σ : SH) (S f : Nat) : SV → Option SR
  | .ptr n off => match P.underlying S with
    | some (.struct fields) => match fields[f]? with
      | some fd => match ssize P fd.type with
        | some k => if k = 0 then none else some (.val (.ptr n (off + fd.offset)) σ)
        | none => none
      | none => none
    | _ => none
  | _ => none
theorem sFieldAddr_ok (h : Rel P w0 env σ w) {S f : Nat} {s : SV} {r : SR} (hs : sFieldAddr P σ S f s = some r) {x : Operand} {ρ : Operand → Value} (hd : den env s = some (ρ x)) (d : Option Tmp) (ty : TypeId) (pos : String) (af : Array Edge) (g : Option (Nat × Bool)) :
    Outcome P w0 env ((execOp ρ ⟨d, .fieldAddr S x f, ty, pos, af, g⟩).run P w) r := by
  unfold sFieldAddr at hs
  split at hs
  · rename_i n off
    split at hs
    · rename_i fields hu
      split at hs
      · rename_i fd hf
        split at hs
        · rename_i k hk
          split at hs
          · cases hs
          · rename_i hk0; cases hs
            obtain ⟨b, c, he, hv⟩ := den_ptr hd
            refine .same (v := .pointer (some ⟨b, off + fd.offset, none⟩)) ?_ h (by simp only [den, he])
            simp [execOp, Instr.fieldAt, underlying, hu, hf, hv, Instr.sureAddr, fieldPlace, ssize_ok hk, hk0, add_none]
        · cases hs
      · cases hs
    · cases hs
  · cases hs

noncomputable def natOf (i : Int) (len : Nat) : Option Nat := @Int.casesOn (fun _ => Option Nat) i (fun n => @Bool.rec (fun _ => Option Nat) none (some n) (Nat.blt n len)) (fun _ => none)
theorem natOf_ok {i : Int} {len k : Nat} (h : natOf i len = some k) : 0 ≤ i ∧ i < len ∧ i.toNat = k := by
  unfold natOf at h
  cases i with
  | negSucc n => exact absurd (show (none : Option Nat) = some k from h) (by simp)
  | ofNat n =>
    have h : @Bool.rec (fun _ => Option Nat) none (some n) (Nat.blt n len) = some k := h
    cases hb : Nat.blt n len with
    | false => rw [hb] at h; exact absurd (show (none : Option Nat) = some k from h) (by simp)
    | true =>
      rw [hb] at h
      have h : some n = some k := h
      obtain rfl := Option.some.inj h
      have : n < len := Nat.le_of_ble_eq_true hb
      refine ⟨by simp only [Int.ofNat_eq_natCast]; omega, by simp only [Int.ofNat_eq_natCast]; omega, rfl⟩

noncomputable def sIndexAddr (P : Program) (σ : SH) (T : TypeId) (x ix : SV) : Option SR := match ix with
  | .int _ i => match P.underlying T, x with
    | some (.array len e), .ptr n off => match natOf i len, ssize P e with
      | some k, some z => some (.val (.ptr n (off + k * z)) σ)
      | _, _ => none
    | some (.slice e), .slice n off len _ => match natOf i len, ssize P e with
      | some k, some z => some (.val (.ptr n (off + k * z)) σ)
      | _, _ => none
    | _, _ => none
  | _ => none
theorem sIndexAddr_ok (h : Rel P w0 env σ w) {T : TypeId} {s t : SV} {r : SR} (hs : sIndexAddr P σ T s t = some r) {x y : Operand} {ρ : Operand → Value} (hd : den env s = some (ρ x)) (hd2 : den env t = some (ρ y)) (d : Option Tmp) (ty : TypeId) (pos : String) (af : Array Edge) (g : Option (Nat × Bool)) :
    Outcome P w0 env ((execOp ρ ⟨d, .indexAddr T x y, ty, pos, af, g⟩).run P w) r := by
  unfold sIndexAddr at hs
  split at hs
  · rename_i kk i
    simp only [den, Option.some.injEq] at hd2
    split at hs
    · rename_i len e n off hu
      split at hs
      · rename_i k z hk hz; cases hs
        obtain ⟨b, c, he, hv⟩ := den_ptr hd
        obtain ⟨k1, k2, k3⟩ := natOf_ok hk
        refine .same (v := .pointer (some ⟨b, off + k * z, none⟩)) ?_ h (by simp only [den, he])
        simp [execOp, Instr.indexAt, underlying, hu, hv, ← hd2, asIntOf, Instr.sureAddr, k1, k2, k3, ssize_ok hz, add_none]
      · cases hs
    · rename_i e n off len c hu
      split at hs
      · rename_i k z hk hz; cases hs
        obtain ⟨b, c', he, hv⟩ := den_slice hd
        obtain ⟨k1, k2, k3⟩ := natOf_ok hk
        refine .same (v := .pointer (some ⟨b, off + k * z, none⟩)) ?_ h (by simp only [den, he])
        simp [execOp, Instr.indexAt, underlying, hu, hv, ← hd2, asIntOf, k1, k2, k3, ssize_ok hz, add_none]
      · cases hs
    · cases hs
  · cases hs

/-- A part of written-out cells. -/
noncomputable def sPart (P : Program) (T : TypeId) (l : List SV) (off : Nat) : Option SV := match P.underlying T with
  | some D => if isAggD D then (match ssize P T with
      | some z => some (.agg ((l.drop off).take z))
      | none => none)
    else l[off]?
  | none => none
theorem sPart_ok {T : TypeId} {l : List SV} {vs : List Value} {off : Nat} {s : SV} (hs : sPart P T l off = some s) (hl : denL env l = some vs) : ∃ v, den env s = some v ∧ ∀ w, (part T vs.toArray off).run P w = .ok v w := by
  unfold sPart at hs
  split at hs
  · rename_i D hu
    split at hs
    · rename_i hD
      split at hs
      · rename_i z hz; cases hs
        refine ⟨.agg ((vs.drop off).take z).toArray, by simp only [den, denL_take z (denL_drop off hl)], fun w => ?_⟩
        have e : vs.toArray.extract off (off + z) = ((vs.drop off).take z).toArray := by
          apply Array.ext'
          simp [List.extract_eq_take_drop]
        cases D <;> simp only [isAggD, Bool.false_eq_true] at hD <;> simp [part, isAgg, underlying, hu, ssize_ok hz, e]
      · cases hs
    · rename_i hD
      obtain ⟨v, h1, h2⟩ := denL_get hl hs
      refine ⟨v, h2, fun w => ?_⟩
      cases D <;> simp only [isAggD, Bool.true_eq_false, not_true_eq_false] at hD <;> simp [part, isAgg, underlying, hu, h1]
  · cases hs

noncomputable def sField (P : Program) (σ : SH) (S f : Nat) : SV → Option SR
  | .agg l => match P.underlying S with
    | some (.struct fields) => match fields[f]? with
      | some fd => match sPart P fd.type l fd.offset with
        | some s => some (.val s σ)
        | none => none
      | none => none
    | _ => none
  | _ => none
theorem sField_ok (h : Rel P w0 env σ w) {S f : Nat} {s : SV} {r : SR} (hs : sField P σ S f s = some r) {x : Operand} {ρ : Operand → Value} (hd : den env s = some (ρ x)) (d : Option Tmp) (ty : TypeId) (pos : String) (af : Array Edge) (g : Option (Nat × Bool)) :
    Outcome P w0 env ((execOp ρ ⟨d, .field S x f, ty, pos, af, g⟩).run P w) r := by
  unfold sField at hs
  split at hs
  · rename_i l
    split at hs
    · rename_i fields hu
      split at hs
      · rename_i fd hf
        split at hs
        · rename_i s' hp; cases hs
          obtain ⟨vs, h1, hv⟩ := den_agg hd
          obtain ⟨v, h2, h3⟩ := sPart_ok hp h1
          refine .same (v := v) ?_ h h2
          simp [execOp, Instr.field, underlying, hu, hf, hv, asAgg, h3]
        · cases hs
      · cases hs
    · cases hs
  · cases hs

noncomputable def sIndex (P : Program) (σ : SH) (T : TypeId) (x ix : SV) : Option SR := match ix with
  | .int _ i => match P.underlying T, x with
    | some (.array len e), .agg l => match natOf i len, ssize P e with
      | some k, some z => match sPart P e l (k * z) with
        | some s => some (.val s σ)
        | none => none
      | _, _ => none
    | some .string, .str l => match natOf i l.length with
      | some k => match l[k]? with
        | some b => some (.val (.int .u8 (b % 256 : Nat)) σ)
        | none => none
      | none => none
    | _, _ => none
  | _ => none
theorem sIndex_ok (h : Rel P w0 env σ w) {T : TypeId} {s t : SV} {r : SR} (hs : sIndex P σ T s t = some r) {x y : Operand} {ρ : Operand → Value} (hd : den env s = some (ρ x)) (hd2 : den env t = some (ρ y)) (d : Option Tmp) (ty : TypeId) (pos : String) (af : Array Edge) (g : Option (Nat × Bool)) :
    Outcome P w0 env ((execOp ρ ⟨d, .index T x y, ty, pos, af, g⟩).run P w) r := by
  unfold sIndex at hs
  split at hs
  · rename_i kk i
    simp only [den, Option.some.injEq] at hd2
    split at hs
    · rename_i len e l hu
      split at hs
      · rename_i k z hk hz
        split at hs
        · rename_i s' hp; cases hs
          obtain ⟨vs, h1, hv⟩ := den_agg hd
          obtain ⟨v, h2, h3⟩ := sPart_ok hp h1
          obtain ⟨k1, k2, k3⟩ := natOf_ok hk
          refine .same (v := v) ?_ h h2
          simp [execOp, Instr.index, underlying, hu, hv, ← hd2, asIntOf, k1, k2, k3, ssize_ok hz, h3]
        · cases hs
      · cases hs
    · rename_i l hu
      split at hs
      · rename_i k hk
        split at hs
        · rename_i b hb; cases hs
          obtain ⟨k1, k2, k3⟩ := natOf_ok hk
          simp only [den, Option.some.injEq] at hd
          refine .same (v := .int .u8 (b % 256 : Nat)) ?_ h rfl
          have e : (bytesOf l)[i.toNat]? = some (UInt8.ofNat b) := by
            rw [k3]
            have hlt : k < l.length := (List.getElem?_eq_some_iff.1 hb).1
            have : k < (bytesOf l).size := by rw [bytesOf_size]; exact hlt
            rw [getElem?_pos (bytesOf l) k this]
            congr 1
            have hdat : (bytesOf l).data[k]? = some (UInt8.ofNat b) := by unfold bytesOf; simp [hb]
            exact (Array.getElem?_eq_some_iff.1 hdat).2
          simp [execOp, Instr.index, underlying, hu, ← hd, ← hd2, asIntOf, k1, e]
        · cases hs
      · cases hs
    · cases hs
  · cases hs
end Go.Proofs.YthenjjonphoklaaGreatDoor
