/-
  THE EXECUTOR, part G: slicing, lengths.
-/
import Derived.Test.YthenjjonphoklaaGreatDoorSymF
set_option linter.unusedVariables false
set_option linter.unusedSimpArgs false
namespace Go.Proofs.YthenjjonphoklaaGreatDoor
open Go Go.RowKit

variable {P : Program} {w0 : Base} {env : Env} {σ : SH} {w : World}

/-- A bound: none, or a number. -/
def IntO (v : Option Value) (i : Option Int) : Prop := (v = none ∧ i = none) ∨ ∃ k n, v = some (.int k n) ∧ i = some n
def bnd (i : Int) (lim : Nat) : Option Nat := if 0 ≤ i then (if i.toNat ≤ lim then some i.toNat else none) else none
theorem bnd_ok {i : Int} {lim n : Nat} (h : bnd i lim = some n) : 0 ≤ i ∧ i ≤ lim ∧ i.toNat = n := by
  unfold bnd at h
  split at h
  · split at h
    · cases h; exact ⟨by assumption, by omega, rfl⟩
    · cases h
  · cases h
theorem run_bound {k : IntKind} {i : Int} {lim n : Nat} (code : BoundsCode) (h0 : 0 ≤ i) (h1 : i ≤ lim) (h2 : i.toNat = n) : (Instr.sliceBound (.int k i) lim code).run P w = .ok n w := by
  simp [Instr.sliceBound, asIntOf, h0, h1, h2]

/-- The bounds of a slice expression. -/
noncomputable def sCut (len lim : Nat) (lo hi mx : Option Int) : Option (Nat × Nat × Nat) :=
  match (match mx with | some i => bnd i lim | none => some lim) with
  | some m => match (match hi with | some i => bnd i m | none => if mx.isSome then none else some len) with
    | some h => match (match lo with | some i => bnd i h | none => some 0) with
      | some l => some (l, h, m)
      | none => none
    | none => none
  | none => none
theorem sCut_ok {len lim cap : Nat} {lo hi mx : Option Int} {l h m : Nat} (hs : sCut len lim lo hi mx = some (l, h, m)) (hc : lim ≤ cap) (isSlice : Bool) {low high max : Option Value} (h1 : IntO low lo) (h2 : IntO high hi) (h3 : IntO max mx) :
    (Instr.sliceBounds isSlice len cap low high max).run P w = .ok (l, h, if mx.isSome then m else cap) w := by
  unfold sCut at hs
  rcases h3 with ⟨rfl, rfl⟩ | ⟨k3, n3, rfl, rfl⟩
  · simp only [Option.isSome_none, Bool.false_eq_true, if_false] at hs ⊢
    rcases h2 with ⟨rfl, rfl⟩ | ⟨k2, n2, rfl, rfl⟩
    · simp only at hs
      rcases h1 with ⟨rfl, rfl⟩ | ⟨k1, n1, rfl, rfl⟩
      · simp only [Option.some.injEq, Prod.mk.injEq] at hs
        obtain ⟨rfl, rfl, rfl⟩ := hs
        simp [Instr.sliceBounds]
      · simp only at hs
        cases hb : bnd n1 len with
        | none => rw [hb] at hs; cases hs
        | some x =>
          rw [hb] at hs; simp only [Option.some.injEq, Prod.mk.injEq] at hs
          obtain ⟨rfl, rfl, rfl⟩ := hs
          obtain ⟨b1, b2, b3⟩ := bnd_ok hb
          simp [Instr.sliceBounds, run_bound _ b1 b2 b3]
    · simp only at hs
      cases hb : bnd n2 lim with
      | none => rw [hb] at hs; cases hs
      | some y =>
        rw [hb] at hs; simp only at hs
        obtain ⟨b1, b2, b3⟩ := bnd_ok hb
        rcases h1 with ⟨rfl, rfl⟩ | ⟨k1, n1, rfl, rfl⟩
        · simp only [Option.some.injEq, Prod.mk.injEq] at hs
          obtain ⟨rfl, rfl, rfl⟩ := hs
          have b2' : n2 ≤ (cap : Int) := by omega
          simp [Instr.sliceBounds, run_bound _ b1 b2' b3]
        · simp only at hs
          cases hb2 : bnd n1 y with
          | none => rw [hb2] at hs; cases hs
          | some x =>
            rw [hb2] at hs; simp only [Option.some.injEq, Prod.mk.injEq] at hs
            obtain ⟨rfl, rfl, rfl⟩ := hs
            obtain ⟨c1, c2, c3⟩ := bnd_ok hb2
            have b2' : n2 ≤ (cap : Int) := by omega
            simp [Instr.sliceBounds, run_bound _ b1 b2' b3, run_bound _ c1 c2 c3]
  · simp only [Option.isSome_some, if_true] at hs ⊢
    cases hb3 : bnd n3 lim with
    | none => rw [hb3] at hs; cases hs
    | some z =>
      rw [hb3] at hs; simp only at hs
      obtain ⟨a1, a2, a3⟩ := bnd_ok hb3
      have a2' : n3 ≤ (cap : Int) := by omega
      rcases h2 with ⟨rfl, rfl⟩ | ⟨k2, n2, rfl, rfl⟩
      · simp only at hs; cases hs
      · simp only at hs
        cases hb : bnd n2 z with
        | none => rw [hb] at hs; cases hs
        | some y =>
          rw [hb] at hs; simp only at hs
          obtain ⟨b1, b2, b3⟩ := bnd_ok hb
          rcases h1 with ⟨rfl, rfl⟩ | ⟨k1, n1, rfl, rfl⟩
          · simp only [Option.some.injEq, Prod.mk.injEq] at hs
            obtain ⟨rfl, rfl, rfl⟩ := hs
            simp [Instr.sliceBounds, run_bound _ a1 a2' a3, run_bound _ b1 b2 b3]
          · simp only at hs
            cases hb2 : bnd n1 y with
            | none => rw [hb2] at hs; cases hs
            | some x =>
              rw [hb2] at hs; simp only [Option.some.injEq, Prod.mk.injEq] at hs
              obtain ⟨rfl, rfl, rfl⟩ := hs
              obtain ⟨c1, c2, c3⟩ := bnd_ok hb2
              simp [Instr.sliceBounds, run_bound _ a1 a2' a3, run_bound _ b1 b2 b3, run_bound _ c1 c2 c3]

theorem sCut_le {len lim : Nat} {lo hi mx : Option Int} {l h m : Nat} (hs : sCut len lim lo hi mx = some (l, h, m)) : m ≤ lim := by
  unfold sCut at hs
  split at hs
  · rename_i m' hm
    split at hs
    · split at hs
      · simp only [Option.some.injEq, Prod.mk.injEq] at hs
        obtain ⟨rfl, rfl, rfl⟩ := hs
        cases mx with
        | none => simp only [Option.some.injEq] at hm; omega
        | some i => simp only at hm; obtain ⟨_, h2, h3⟩ := bnd_ok hm; omega
      · cases hs
    · cases hs
  · cases hs
theorem sCut_none {len lim : Nat} {lo hi : Option Int} {l h m : Nat} (hs : sCut len lim lo hi none = some (l, h, m)) : m = lim := by
  unfold sCut at hs
  simp only at hs
  split at hs
  · split at hs
    · simp only [Option.some.injEq, Prod.mk.injEq] at hs; exact hs.2.2.symm
    · cases hs
  · cases hs

/-- How many elements a row surely holds behind the d-th. -/
noncomputable def roomOf (P : Program) (σ : SH) (n off d z : Nat) : Option Nat := match σ.get n with
  | some (.cells l e false) => if decide (0 < z) && off == d * z && P.cellsOf e == z && decide (d ≤ (lenR l) / z) then some ((lenR l) / z - d) else none
  | _ => none
theorem roomOf_ok (h : Rel P w0 env σ w) {n off d z k b c : Nat} (hs : roomOf P σ n off d z = some k) (he : env.blocks n = some (b, c)) : 0 < z ∧ off = d * z ∧ k ≤ c - d := by
  unfold roomOf at hs
  simp only [lenR_eq, takeR_eq, dropR_eq, appR_eq, allR_eq, mapR_eq] at hs
  split at hs
  · rename_i l e hn
    split at hs
    · rename_i hc; cases hs
      simp only [Bool.and_eq_true, decide_eq_true_eq, beq_iff_eq] at hc
      obtain ⟨⟨⟨c1, c2⟩, c3⟩, c4⟩ := hc
      obtain ⟨b', c', h1, h2, cur, t, fr, vs, g1, g2, g3, g4, g5, g6⟩ := h.obj n _ hn
      rw [he] at h1; cases h1
      obtain ⟨s1, s2⟩ := g6 rfl
      have hle : l.length ≤ cur.size := by
        have := congrArg List.length g4
        rw [List.length_take, denL_length g3] at this
        simp at this; omega
      rw [s1, c3] at hle
      have : l.length / z ≤ c := by
        have := Nat.div_le_div_right (c := z) hle
        rwa [Nat.mul_div_cancel _ c1] at this
      exact ⟨c1, c2, by omega⟩
    · cases hs
  · cases hs

noncomputable def sSlice (P : Program) (σ : SH) (T : TypeId) (x : SV) (lo hi mx : Option Int) : Option SR := match P.underlying T with
  | some .string => match x, mx with
    | .str l, none => match sCut (lenR l) (lenR l) lo hi none with
      | some (a, h, _) => some (.val (.str (dropR (takeR l h) a)) σ)
      | none => none
    | _, _ => none
  | some (.array len e) => match x, ssize P e with
    | .ptr n off, some z => match sCut len len lo hi mx with
      | some (a, h, m) => some (.val (.slice n (if m = a then off else off + a * z) (h - a) (.lit (m - a))) σ)
      | none => none
    | _, _ => none
  | some (.slice e) => match x, ssize P e with
    | .slice n off len (.lit cap), some z => match sCut len cap lo hi mx with
      | some (a, h, m) => some (.val (.slice n (if m = a then off else off + a * z) (h - a) (.lit (m - a))) σ)
      | none => none
    | .slice n off len (.rest d), some z => match roomOf P σ n off d z with
      | some k => match sCut len k lo hi mx with
        | some (a, h, m) => if mx.isSome then some (.val (.slice n (if m = a then off else off + a * z) (h - a) (.lit (m - a))) σ)
          else if a = 0 ∨ a < k then some (.val (.slice n (off + a * z) (h - a) (.rest (d + a))) σ) else if h = a then some (.val (.zslice n off a z d) σ) else none
        | none => none
      | none => none
    | .nils, some _ => match sCut 0 0 lo hi mx with
      | some (_, _, _) => some (.val .nils σ)
      | none => none
    | _, _ => none
  | _ => none
theorem bytesOf_extract (l : List Nat) (a h : Nat) (hh : h ≤ l.length) : (bytesOf l).extract a h = bytesOf ((l.take h).drop a) := by
  apply ByteArray.ext
  rw [ByteArray.data_extract]
  unfold bytesOf
  apply Array.ext'
  simp [List.extract_eq_take_drop, List.map_drop, List.map_take, List.drop_take]
theorem sSlice_ok (h : Rel P w0 env σ w) {T : TypeId} {s : SV} {lo hi mx : Option Int} {r : SR} (hs : sSlice P σ T s lo hi mx = some r) {x : Operand} {ol oh om : Option Operand} {ρ : Operand → Value} (hd : den env s = some (ρ x))
    (h1 : IntO (ol.map ρ) lo) (h2 : IntO (oh.map ρ) hi) (h3 : IntO (om.map ρ) mx) (d : Option Tmp) (ty : TypeId) (pos : String) (af : Array Edge) (g : Option (Nat × Bool)) :
    Outcome P w0 env ((execOp ρ ⟨d, .slice T x ol oh om, ty, pos, af, g⟩).run P w) r := by
  unfold sSlice at hs
  simp only [lenR_eq, takeR_eq, dropR_eq, appR_eq, allR_eq, mapR_eq] at hs
  split at hs
  · rename_i hu
    split at hs
    · rename_i l
      split at hs
      · rename_i a hh m hc; cases hs
        simp only [den, Option.some.injEq] at hd
        have hm : om.map ρ = none := by
          rcases h3 with ⟨h3, _⟩ | ⟨_, _, _, h3⟩
          · exact h3
          · cases h3
        have hcut := sCut_ok (P := P) (w := w) hc (Nat.le_refl _) false h1 h2 (Or.inl ⟨rfl, rfl⟩ : IntO none none)
        have hle : hh ≤ l.length := by
          unfold sCut at hc
          simp only at hc
          split at hc
          · rename_i y hy
            split at hc
            · simp only [Option.some.injEq, Prod.mk.injEq] at hc
              obtain ⟨rfl, rfl, rfl⟩ := hc
              cases hi with
              | none => simp at hy; omega
              | some i => simp only at hy; obtain ⟨_, e2, e3⟩ := bnd_ok hy; omega
            · cases hc
          · cases hc
        refine .same (v := .string (bytesOf ((l.take hh).drop a))) ?_ h rfl
        rw [← bytesOf_extract l a hh hle]
        simp [execOp, Instr.sliceAt, Instr.slice, underlying, hu, ← hd, hm, bytesOf_size, hcut]
      · cases hs
    · cases hs
  · rename_i len e hu
    split at hs
    · rename_i n off z hz
      split at hs
      · rename_i a hh m hc; cases hs
        obtain ⟨b, c, he, hv⟩ := den_ptr hd
        have hcut := sCut_ok (P := P) (w := w) hc (Nat.le_refl _) false h1 h2 h3
        have hm : (if mx.isSome then m else len) = m := by
          cases mx with
          | none => rw [sCut_none hc]; simp
          | some i => rfl
        rw [hm] at hcut
        refine .same (v := .slice (some ⟨b, if m = a then off else off + a * z, none⟩) (hh - a) (m - a)) ?_ h (by simp only [den, he, capOf])
        simp only [execOp, Instr.sliceAt, underlying, Sem.run_bind]
        by_cases hma : m = a <;> simp [hu, hv, Instr.sureAddr, hcut, ssize_ok hz, hma, add_none]
      · cases hs
    · cases hs
  · rename_i e hu
    split at hs
    · rename_i n off len cap z hz
      split at hs
      · rename_i a hh m hc; cases hs
        obtain ⟨b, c, he, hv⟩ := den_slice hd
        have hcut := sCut_ok (P := P) (w := w) hc (Nat.le_refl _) true h1 h2 h3
        have hm : (if mx.isSome then m else cap) = m := by
          cases mx with
          | none => rw [sCut_none hc]; simp
          | some i => rfl
        rw [hm] at hcut
        refine .same (v := .slice (some ⟨b, if m = a then off else off + a * z, none⟩) (hh - a) (m - a)) ?_ h (by simp only [den, he, capOf])
        simp only [execOp, Instr.sliceAt, Instr.slice, underlying, Sem.run_bind]
        by_cases hma : m = a <;> simp [hu, hv, hcut, ssize_ok hz, hma, add_none, capOf]
      · cases hs
    · rename_i n off len dd z hz
      split at hs
      · rename_i k hk
        split at hs
        · rename_i a hh m hc
          obtain ⟨b, c, he, hv⟩ := den_slice hd
          obtain ⟨z0, zo, zk⟩ := roomOf_ok h hk he
          have hcut := sCut_ok (P := P) (w := w) hc zk true h1 h2 h3
          split at hs
          · rename_i hmx; cases hs
            rw [if_pos hmx] at hcut
            refine .same (v := .slice (some ⟨b, if m = a then off else off + a * z, none⟩) (hh - a) (m - a)) ?_ h (by simp only [den, he, capOf])
            simp only [execOp, Instr.sliceAt, Instr.slice, underlying, Sem.run_bind]
            by_cases hma : m = a <;> simp [hu, hv, hcut, ssize_ok hz, hma, add_none, capOf]
          · rename_i hmx
            split at hs
            · rename_i hak; cases hs
              rw [if_neg hmx] at hcut
              refine .same (v := .slice (some ⟨b, off + a * z, none⟩) (hh - a) (c - dd - a)) ?_ h (by simp only [den, he, capOf]; rw [show c - (dd + a) = c - dd - a by omega])
              simp only [execOp, Instr.sliceAt, Instr.slice, underlying, Sem.run_bind]
              by_cases hma : c - dd = a
              · have : a = 0 := by omega
                subst this
                rw [hma] at hcut
                simp [hu, hv, hcut, ssize_ok hz, hma, add_none, capOf]
              · simp [hu, hv, hcut, ssize_ok hz, hma, add_none, capOf]
            · split at hs
              · rename_i hha; cases hs
                subst hha
                rw [if_neg hmx] at hcut
                refine .same (v := .slice (some ⟨b, if c - dd = hh then off else off + hh * z, none⟩) 0 (c - dd - hh)) ?_ h (by simp only [den, he])
                simp only [execOp, Instr.sliceAt, Instr.slice, underlying, Sem.run_bind]
                by_cases hma : c - dd = hh
                · rw [hma] at hcut
                  simp [hu, hv, hcut, ssize_ok hz, hma, add_none, capOf]
                · simp [hu, hv, hcut, ssize_ok hz, hma, add_none, capOf]
              · cases hs
        · cases hs
      · cases hs
    · rename_i z hz
      split at hs
      · rename_i a hh m hc; cases hs
        simp only [den, Option.some.injEq] at hd
        have hcut := sCut_ok (P := P) (w := w) hc (Nat.le_refl _) true h1 h2 h3
        have h0 : a = 0 ∧ hh = 0 ∧ m = 0 := by
          have hm0 := sCut_le hc
          unfold sCut at hc
          split at hc
          · rename_i m' hm'
            split at hc
            · rename_i h' hh'
              split at hc
              · rename_i a' ha'
                simp only [Option.some.injEq, Prod.mk.injEq] at hc
                obtain ⟨rfl, rfl, rfl⟩ := hc
                have e2 : h' = 0 := by
                  cases hi with
                  | none => simp only at hh'; split at hh' <;> simp_all
                  | some i => simp only at hh'; obtain ⟨_, q2, q3⟩ := bnd_ok hh'; omega
                have e3 : a' = 0 := by
                  cases lo with
                  | none => simp only [Option.some.injEq] at ha'; omega
                  | some i => simp only at ha'; obtain ⟨_, q2, q3⟩ := bnd_ok ha'; omega
                exact ⟨e3, e2, by omega⟩
              · cases hc
            · cases hc
          · cases hc
        obtain ⟨rfl, rfl, rfl⟩ := h0
        have hm : (if mx.isSome then 0 else 0) = 0 := by split <;> rfl
        rw [hm] at hcut
        refine .same (v := .slice none 0 0) ?_ h rfl
        simp [execOp, Instr.sliceAt, Instr.slice, underlying, hu, ← hd, hcut, ssize_ok hz]
      · cases hs
    · cases hs
  · cases hs
end Go.Proofs.YthenjjonphoklaaGreatDoor
