/-
  hexa.Hex in the executor.
-/
import Derived.Test.YthenjjonphoklaaGreatDoorExec
import Derived.Test.YthenjjonphoklaaGreatDoorHexa
set_option linter.unusedVariables false
set_option linter.unusedSimpArgs false
namespace Go.Proofs.YthenjjonphoklaaGreatDoor
open Go Go.RowKit

/-- Known bytes. -/
noncomputable def bytesL : List SV → Option (List Nat)
  | [] => some []
  | .int .u8 (.ofNat n) :: r => match bytesL r with
    | some l => @Bool.rec (fun _ => Option (List Nat)) none (some (n :: l)) (Nat.blt n 256)
    | none => none
  | _ :: _ => none
theorem bytesL_ok {env : Env} : ∀ {l : List SV} {ks : List Nat} {vs : List Value}, bytesL l = some ks → denL env l = some vs → vs = Lib.byteCells (ks.map UInt8.ofNat) := by
  intro l
  induction l with
  | nil => intro ks vs h hd; simp only [bytesL] at h; cases h; simp only [denL] at hd; cases hd; rfl
  | cons x r ih =>
    intro ks vs h hd
    obtain ⟨v, us, h1, h2, rfl⟩ := denL_cons hd
    unfold bytesL at h
    split at h
    · rename_i heq; cases heq
    · rename_i n r' heq
      cases heq
      split at h
      · rename_i l' hl
        cases hb : Nat.blt n 256 with
        | false => rw [hb] at h; exact absurd (show (none : Option (List Nat)) = some ks from h) (by simp)
        | true =>
          rw [hb] at h
          replace h : some (n :: l') = some ks := h
          cases h
          have hn : n < 256 := Nat.le_of_ble_eq_true hb
          simp only [den, Option.some.injEq] at h1
          subst h1
          rw [ih hl h2]
          have : (UInt8.ofNat n).toNat = n := by simp; omega
          simp [Lib.byteCells, this]
      · cases h
    · cases h
noncomputable def digN (n : Nat) : Nat := @Bool.rec (fun _ => Nat) (Nat.add 87 n) (Nat.add 48 n) (Nat.blt n 10)
noncomputable def hexN : List Nat → List Nat
  | [] => []
  | n :: r => digN (Nat.div n 16) :: digN (Nat.mod n 16) :: hexN r
theorem digN_ok (n : Nat) : UInt8.ofNat (digN n) = hexDigit n := by
  unfold digN hexDigit
  by_cases h : n < 10
  · rw [if_pos h, show Nat.blt n 10 = true from Nat.ble_eq_true_of_le h]
    rfl
  · rw [if_neg h]
    have : Nat.blt n 10 = false := by
      cases hb : Nat.blt n 10 with
      | false => rfl
      | true => exact absurd (Nat.le_of_ble_eq_true hb) h
    rw [this]; rfl
theorem hexN_ok : ∀ (l : List Nat), (∀ n ∈ l, n < 256) → (hexN l).map UInt8.ofNat = hexOf (l.map UInt8.ofNat) := by
  intro l
  induction l with
  | nil => intro _; rfl
  | cons n r ih =>
    intro h
    have hn : n < 256 := h n (by simp)
    have : (UInt8.ofNat n).toNat = n := by simp; omega
    simp only [hexN, List.map_cons, hexOf, this, digN_ok, ih (fun m hm => h m (by simp [hm]))]
    rfl
theorem bytesL_lt : ∀ {l : List SV} {ks : List Nat}, bytesL l = some ks → ∀ n ∈ ks, n < 256 := by
  intro l
  induction l with
  | nil => intro ks h; simp only [bytesL] at h; cases h; simp
  | cons x r ih =>
    intro ks h
    unfold bytesL at h
    split at h
    · rename_i heq; cases heq
    · rename_i n r' heq
      cases heq
      split at h
      · rename_i l' hl
        cases hb : Nat.blt n 256 with
        | false => rw [hb] at h; exact absurd (show (none : Option (List Nat)) = some ks from h) (by simp)
        | true =>
          rw [hb] at h
          replace h : some (n :: l') = some ks := h
          cases h
          intro m hm
          rcases List.mem_cons.1 hm with rfl | hm
          · exact Nat.le_of_ble_eq_true hb
          · exact ih hl m hm
      · cases h
    · cases h

noncomputable def hexOut (args : List SV) (σ : SH) : Option Outs := match args with
  | [.slice n off len _] => (match σ.get n with
    | some (.cells l _ _) => (match bytesL ((l.drop off).take len) with
      | some ks => @Bool.rec (fun _ => Option Outs) none (some [(.str (hexN ks), σ)]) (Nat.beq ks.length len && Nat.blt 0 len && Nat.ble len 1000000)
      | none => none)
    | _ => none)
  | _ => none
theorem hexOut_ok (b0 : Base) {args : List SV} {σ : SH} {outs : Outs} {env : Env} {w : World} {vs : List Value} (h : hexOut args σ = some outs) (ho : env.ones) (hr : Rel Tryz.prog b0 env σ w) (ha : denL env args = some vs) :
    Calls Tryz.prog 46 vs.toArray w (Comes1 Tryz.prog b0 env outs) := by
  unfold hexOut at h
  split at h
  · rename_i n off len cap
    split at h
    · rename_i l e1 x1 hn
      split at h
      · rename_i ks hks
        cases hc : (Nat.beq ks.length len && Nat.blt 0 len && Nat.ble len 1000000) with
        | false => rw [hc] at h; exact absurd (show (none : Option Outs) = some outs from h) (by simp)
        | true =>
          rw [hc] at h
          replace h : some [(SV.str (hexN ks), σ)] = some outs := h
          cases h
          simp only [Bool.and_eq_true] at hc
          obtain ⟨⟨c1, c2⟩, c3⟩ := hc
          have c1 := Nat.eq_of_beq_eq_true c1
          have c2 : 0 < len := Nat.le_of_ble_eq_true c2
          have c3 := Nat.le_of_ble_eq_true c3
          obtain ⟨b, c, hb, _, hO⟩ := hr.obj n _ hn
          obtain ⟨cur, t, fr, us, hcur, hth, hus, htake, _⟩ := hO
          have hsl := bytesL_ok hks (denL_take len (denL_drop off hus))
          obtain rfl : vs = [.slice (some ⟨b, off, none⟩) len (capOf c cap)] := by
            obtain ⟨v, us', h1, h2, rfl⟩ := denL_cons ha
            simp only [denL] at h2; cases h2
            simp only [den, hb, Option.some.injEq] at h1
            subst h1; rfl
          have hlen : (ks.map UInt8.ofNat).length = len := by simpa using c1
          have := hex_any (ks.map UInt8.ofNat) b off (capOf c cap) w (Array.getElem?_eq_some_iff.1 hcur).1 (fun j x hx => by
            rw [cell_of_row w b (off + j) cur t fr hcur]
            have h1 : ((us.drop off).take len)[j]? = some (.int .u8 x.toNat) := by
              rw [hsl]; unfold Lib.byteCells; rw [List.getElem?_map, hx]; rfl
            have hj : j < len := by
              rcases Nat.lt_or_ge j len with h | h
              · exact h
              · rw [List.getElem?_eq_none (by omega)] at hx; cases hx
            rw [List.getElem?_take_of_lt hj, List.getElem?_drop, ← htake] at h1
            rw [← Array.getElem?_toList]
            rw [List.getElem?_take] at h1
            split at h1
            · exact h1
            · cases h1) (by intro he; rw [he] at hlen; simp at hlen; omega) (by omega)
          rw [hlen] at this
          refine this.mono ?_
          rintro en w' ⟨rfl, hbl⟩
          refine ⟨_, List.mem_singleton.2 rfl, env, _, rfl, Env.le_refl _, hr.world hbl, ?_⟩
          simp only [den, bytesOf]
          rw [hexN_ok ks (bytesL_lt hks)]
      · cases h
    · cases h
  · cases h
end Go.Proofs.YthenjjonphoklaaGreatDoor
