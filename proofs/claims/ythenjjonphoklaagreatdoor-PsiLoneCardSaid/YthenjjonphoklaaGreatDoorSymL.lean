/-
  THE EXECUTOR, part L: equality, type assertions, make, maps.
-/
import Derived.Test.YthenjjonphoklaaGreatDoorSymK
set_option linter.unusedVariables false
set_option linter.unusedSimpArgs false
namespace Go.Proofs.YthenjjonphoklaaGreatDoor
open Go Go.RowKit

variable {P : Program} {w0 : Base} {env : Env} {σ : SH} {w : World}


section
variable {T e e' e3 : TypeId}
theorem eqIn_p1 (d : Nat) (hu : P.underlying T = some (.pointer e)) (b : Option Addr) (w : World) : (Op.equalIn (d + 1) T (.pointer none) (.pointer b)).run P w = .ok b.isNone w := by cases b <;> simp [Op.equalIn, run_underlying hu]
theorem eqIn_p2 (d : Nat) (hu : P.underlying T = some (.pointer e)) (a : Addr) (w : World) : (Op.equalIn (d + 1) T (.pointer (some a)) (.pointer none)).run P w = .ok false w := by simp [Op.equalIn, run_underlying hu]
theorem eqIn_s (d : Nat) (hu : P.underlying T = some (.slice e)) (a : Option Addr) (n c : Nat) (w : World) : (Op.equalIn (d + 1) T (.slice a n c) (.slice none 0 0)).run P w = .ok a.isNone w := by cases a <;> simp [Op.equalIn, run_underlying hu]
theorem eqIn_m (d : Nat) (hu : P.underlying T = some (.map e e')) (a : Option Nat) (w : World) : (Op.equalIn (d + 1) T (.map a) (.map none)).run P w = .ok a.isNone w := by cases a <;> simp [Op.equalIn, run_underlying hu]
theorem eqIn_i1 {ms : Array (String × TypeId)} (d : Nat) (hu : P.underlying T = some (.interface ms)) (w : World) : (Op.equalIn (d + 1) T .nilIface .nilIface).run P w = .ok true w := by simp [Op.equalIn, run_underlying hu]
theorem eqIn_i2 {ms : Array (String × TypeId)} (d : Nat) (hu : P.underlying T = some (.interface ms)) (t : TypeId) (v : Value) (w : World) : (Op.equalIn (d + 1) T (.iface t v) .nilIface).run P w = .ok false w := by simp [Op.equalIn, run_underlying hu]
theorem eqIn_i3 {ms : Array (String × TypeId)} (d : Nat) (hu : P.underlying T = some (.interface ms)) (t : TypeId) (v : Value) (w : World) : (Op.equalIn (d + 1) T .nilIface (.iface t v)).run P w = .ok false w := by simp [Op.equalIn, run_underlying hu]
end

def isConst : Operand → Bool
  | .const _ => true
  | _ => false
/-- A value against a nil. -/
noncomputable def sNilEq (P : Program) (T : TypeId) (x y : Operand) (a b : SV) : Option Bool := match P.underlying T with
  | some (.pointer _) => match a, b with
    | .nilp, .nilp => some true
    | .ptr _ _, .nilp => some false
    | .nilp, .ptr _ _ => some false
    | _, _ => none
  | some (.slice _) => match a, b with
    | .nils, .nils => some true
    | .slice _ _ _ _, .nils => some false
    | .zslice _ _ _ _ _, .nils => some false
    | _, _ => none
  | some (.map _ _) => match a, b with
    | .nilm, .nilm => some true
    | .map _, .nilm => some false
    | _, _ => none
  | some (.interface _) => match a, b with
    | .nili, .nili => if isConst x || isConst y then some true else none
    | .iface _ _, .nili => some false
    | .nili, .iface _ _ => some false
    | _, _ => none
  | _ => none

theorem sNilEq_ok {T : TypeId} {x y : Operand} {a b : SV} {t : Bool} (hs : sNilEq P T x y a b = some t) {u v : Value} (h1 : den env a = some u) (h2 : den env b = some v) (w : World) :
    (∀ op, (op = .eql ∨ op = .neq) → (eqGuard op T x y u v).run P w = .ok () w) ∧ (binOp .eql T u v).run P w = .ok (.bool t) w ∧ (binOp .neq T u v).run P w = .ok (.bool !t) w := by
  have key : ∀ {u v : Value} {t : Bool}, (Op.equalIn (9999 + 1) T u v).run P w = .ok t w → (binOp .eql T u v = (do pure (.bool (← Op.equal T u v)))) → (binOp .neq T u v = (do pure (.bool (!(← Op.equal T u v))))) → (binOp .eql T u v).run P w = .ok (.bool t) w ∧ (binOp .neq T u v).run P w = .ok (.bool !t) w := fun h h1 h2 => by
    have h : (Op.equal _ _ _).run P w = _ := h
    rw [h1, h2]
    simp only [Sem.run_bind, h, Result.andThen_ok]
    exact ⟨rfl, rfl⟩
  unfold sNilEq at hs
  split at hs
  · rename_i e hu
    split at hs
    · cases hs; simp only [den, Option.some.injEq] at h1 h2; subst h1; subst h2
      exact ⟨fun op ho => by rcases ho with rfl | rfl <;> simp [eqGuard], key (eqIn_p1 9999 hu none w) rfl rfl⟩
    · cases hs; obtain ⟨q, k, _, rfl⟩ := den_ptr h1; simp only [den, Option.some.injEq] at h2; subst h2
      exact ⟨fun op ho => by rcases ho with rfl | rfl <;> simp [eqGuard], key (eqIn_p2 9999 hu ⟨q, _, none⟩ w) rfl rfl⟩
    · cases hs; obtain ⟨q, k, _, rfl⟩ := den_ptr h2; simp only [den, Option.some.injEq] at h1; subst h1
      exact ⟨fun op ho => by rcases ho with rfl | rfl <;> simp [eqGuard], key (eqIn_p1 9999 hu (some ⟨q, _, none⟩) w) rfl rfl⟩
    · cases hs
  · rename_i e hu
    split at hs
    · cases hs; simp only [den, Option.some.injEq] at h1 h2; subst h1; subst h2
      exact ⟨fun op ho => by rcases ho with rfl | rfl <;> simp [eqGuard], key (eqIn_s 9999 hu none 0 0 w) rfl rfl⟩
    · cases hs; obtain ⟨q, k, _, rfl⟩ := den_slice h1; simp only [den, Option.some.injEq] at h2; subst h2
      exact ⟨fun op ho => by rcases ho with rfl | rfl <;> simp [eqGuard], key (eqIn_s 9999 hu (some ⟨q, _, none⟩) _ (capOf k _) w) rfl rfl⟩
    · cases hs; obtain ⟨ad, cp, rfl⟩ := den_zslice h1; simp only [den, Option.some.injEq] at h2; subst h2
      exact ⟨fun op ho => by rcases ho with rfl | rfl <;> simp [eqGuard], key (eqIn_s 9999 hu (some ad) _ cp w) rfl rfl⟩
    · cases hs
  · rename_i e e' hu
    split at hs
    · cases hs; simp only [den, Option.some.injEq] at h1 h2; subst h1; subst h2
      exact ⟨fun op ho => by rcases ho with rfl | rfl <;> simp [eqGuard], key (eqIn_m 9999 hu none w) rfl rfl⟩
    · cases hs; obtain ⟨q, k, _, rfl⟩ := den_map h1; simp only [den, Option.some.injEq] at h2; subst h2
      exact ⟨fun op ho => by rcases ho with rfl | rfl <;> simp [eqGuard], key (eqIn_m 9999 hu (some q) w) rfl rfl⟩
    · cases hs
  · rename_i ms hu
    split at hs
    · split at hs
      · rename_i hc; cases hs; simp only [den, Option.some.injEq] at h1 h2; subst h1; subst h2
        have := key (eqIn_i1 9999 hu w) rfl rfl
        refine ⟨fun op ho => ?_, this⟩
        · have hc' : (match x with | .const _ => true | _ => false) = true ∨ (match y with | .const _ => true | _ => false) = true := by
            rw [Bool.or_eq_true] at hc
            rcases hc with hc | hc
            · left; cases x <;> simp_all [isConst]
            · right; cases y <;> simp_all [isConst]
          rcases ho with rfl | rfl <;> rcases hc' with hc' | hc' <;> (cases x <;> cases y <;> simp_all [eqGuard])
      · cases hs
    · cases hs; obtain ⟨q, _, rfl⟩ := den_iface h1; simp only [den, Option.some.injEq] at h2; subst h2
      exact ⟨fun op ho => by rcases ho with rfl | rfl <;> simp [eqGuard], key (eqIn_i2 9999 hu _ q w) rfl rfl⟩
    · cases hs; obtain ⟨q, _, rfl⟩ := den_iface h2; simp only [den, Option.some.injEq] at h1; subst h1
      exact ⟨fun op ho => by rcases ho with rfl | rfl <;> simp [eqGuard], key (eqIn_i3 9999 hu _ q w) rfl rfl⟩
    · cases hs
  · cases hs

/-- A binary operation, nils and aggregates too. -/
noncomputable def sBinary (P : Program) (σ : SH) (op : BinOp) (T : TypeId) (x y : Operand) (a b : SV) : Option SR := match op with
  | .eql => match a, b with
    | .agg l, .agg m => if P.eqGuardType P.depth T then none else (match sEqAgg P T l m with
      | some t => some (.val (.bool t) σ)
      | none => none)
    | a, b => match sNilEq P T x y a b with
      | some t => some (.val (.bool t) σ)
      | none => sBin P σ .eql T x y a b
  | .neq => match a, b with
    | .agg l, .agg m => if P.eqGuardType P.depth T then none else (match sEqAgg P T l m with
      | some t => some (.val (.bool !t) σ)
      | none => none)
    | a, b => match sNilEq P T x y a b with
      | some t => some (.val (.bool !t) σ)
      | none => sBin P σ .neq T x y a b
  | op => sBin P σ op T x y a b
theorem sBinary_ok (h : Rel P w0 env σ w) {op : BinOp} {T B : TypeId} {x y : Operand} {a b : SV} {r : SR} (hs : sBinary P σ op T x y a b = some r) {ρ : Operand → Value} (h1 : den env a = some (ρ x)) (h2 : den env b = some (ρ y)) (d : Option Tmp) (ty : TypeId) (pos : String) (af : Array Edge) (g : Option (Nat × Bool)) :
    Outcome P w0 env ((execOp ρ ⟨d, .binOp op T x y B, ty, pos, af, g⟩).run P w) r := by
  unfold sBinary at hs
  split at hs
  · split at hs
    · rename_i l m
      split at hs
      · cases hs
      · rename_i hg
        split at hs
        · rename_i t ht; cases hs
          obtain ⟨u, hu, e1⟩ := den_agg h1
          obtain ⟨v, hv, e2⟩ := den_agg h2
          have hq := sEqAgg_ok ht hu hv w
          refine .same (v := .bool t) ?_ h rfl
          simp only [execOp, e1, e2, Sem.run_bind, run_eqGuard_agg w .eql T x y _ _ (by simpa using hg), Result.andThen_ok, run_eql_struct w T, hq]
          rfl
        · cases hs
    · split at hs
      · rename_i t ht; cases hs
        obtain ⟨k1, k2, k3⟩ := sNilEq_ok ht h1 h2 w
        refine .same (v := .bool t) ?_ h rfl
        simp only [execOp, Sem.run_bind, k1 .eql (.inl rfl), Result.andThen_ok, k2]
        rfl
      · exact sBin_ok h hs h1 h2 d ty pos af g
  · split at hs
    · rename_i l m
      split at hs
      · cases hs
      · rename_i hg
        split at hs
        · rename_i t ht; cases hs
          obtain ⟨u, hu, e1⟩ := den_agg h1
          obtain ⟨v, hv, e2⟩ := den_agg h2
          have hq := sEqAgg_ok ht hu hv w
          refine .same (v := .bool !t) ?_ h rfl
          simp only [execOp, e1, e2, Sem.run_bind, run_eqGuard_agg w .neq T x y _ _ (by simpa using hg), Result.andThen_ok, run_neq_struct w T, hq]
          rfl
        · cases hs
    · split at hs
      · rename_i t ht; cases hs
        obtain ⟨k1, k2, k3⟩ := sNilEq_ok ht h1 h2 w
        refine .same (v := .bool !t) ?_ h rfl
        simp only [execOp, Sem.run_bind, k1 .neq (.inr rfl), Result.andThen_ok, k3]
        rfl
      · exact sBin_ok h hs h1 h2 d ty pos af g
  · exact sBin_ok h hs h1 h2 d ty pos af g
end Go.Proofs.YthenjjonphoklaaGreatDoor
