/-
  slices.Collect over maps.Keys of a known map, as the executor's summaries: one outcome for each order in which the keys may come.
-/
import Derived.Test.YtnlijlabkoefbaaGreatDoorKeyID
import Derived.Test.YtnlijlabkoefbaaGreatDoorKeySC
import Derived.Test.YtnlijlabkoefbaaGreatDoorExtB
set_option linter.unusedVariables false
set_option linter.unusedSimpArgs false
namespace Go.Proofs.YtnlijlabkoefbaaGreatDoor
open Go Go.RowKit Go.Shelf Go.Maps

theorem perm_lift {α β : Type} (f : α → β) : ∀ (l : List α) (b : List β), b.Perm (l.map f) → ∃ l' : List α, l'.Perm l ∧ l'.map f = b := by
  intro l
  induction l with
  | nil => intro b h; rw [List.map_nil] at h; rw [List.Perm.eq_nil h]; exact ⟨[], List.Perm.refl _, rfl⟩
  | cons x r ih =>
    intro b h
    have hx : f x ∈ b := h.mem_iff.2 (by simp)
    obtain ⟨a, c, rfl⟩ := List.append_of_mem hx
    have hp : (a ++ c).Perm (r.map f) := (List.perm_middle.symm.trans h).cons_inv
    obtain ⟨l', h1, h2⟩ := ih _ hp
    obtain ⟨l1, l2, rfl, rfl, rfl⟩ := List.map_eq_append_iff.1 h2
    exact ⟨l1 ++ x :: l2, List.perm_middle.trans (h1.cons x), by simp⟩

/-- The keys of a map, by their cells. -/
def idKeys : List (SV × SV) → Option (List (List SV))
  | [] => some []
  | (.agg ks, _) :: r => match idKeys r with
    | some l => if Nat.beq ks.length 20 && allInt ks then some (ks :: l) else none
    | none => none
  | _ :: _ => none
theorem idKeys_ok {env : Env} : ∀ {es : List (SV × SV)} {kl : List (List SV)} {ks : List Value}, idKeys es = some kl → denL env (es.map (·.1)) = some ks →
    ∃ ps : List (List SV × List Value), ps.map (·.1) = kl ∧ (ps.map fun p => Value.agg p.2.toArray) = ks ∧ ∀ p ∈ ps, denL env p.1 = some p.2 ∧ p.2.length = 20 ∧ ∀ v ∈ p.2, v.oneCell' = true := by
  intro es
  induction es with
  | nil =>
    intro kl ks h hd
    simp only [idKeys] at h; cases h
    simp only [List.map_nil, denL] at hd; cases hd
    exact ⟨[], rfl, rfl, fun p hp => by cases hp⟩
  | cons x r ih =>
    intro kl ks h hd
    obtain ⟨a, u⟩ := x
    cases a <;> simp only [idKeys] at h <;> try (cases h; done)
    rename_i cs
    cases hr : idKeys r with
    | none => rw [hr] at h; cases h
    | some l =>
      rw [hr] at h
      simp only at h
      split at h
      · rename_i hc; cases h
        rw [Bool.and_eq_true] at hc
        obtain ⟨v, us, h1, h2, rfl⟩ := denL_cons (show denL env (SV.agg cs :: r.map (·.1)) = some ks from hd)
        obtain ⟨vs, h3, rfl⟩ := den_agg h1
        obtain ⟨ps, p1, p2, p3⟩ := ih hr h2
        refine ⟨(cs, vs) :: ps, by rw [List.map_cons, p1], by rw [List.map_cons, p2], fun p hp => ?_⟩
        rcases List.mem_cons.1 hp with rfl | hp
        · exact ⟨h3, (denL_length h3).trans (Nat.eq_of_beq_eq_true hc.1), allInt_one hc.2 h3⟩
        · exact p3 p hp
      · cases h
theorem denL_flatten {env : Env} : ∀ (ps : List (List SV × List Value)), (∀ p ∈ ps, denL env p.1 = some p.2) → denL env (ps.map (·.1)).flatten = some (ps.flatMap (·.2)) := by
  intro ps
  induction ps with
  | nil => intro _; rfl
  | cons p r ih =>
    intro h
    rw [List.map_cons, List.flatten_cons, List.flatMap_cons]
    exact denL_append (h p (by simp)) (ih fun q hq => h q (by simp [hq]))

/-- What a new row of elements is. -/
noncomputable def rowOut (T : TypeId) (σ : SH) (n : Nat) (l : List SV) : SV × SH := @Nat.rec (fun _ => SV × SH) (.nils, σ) (fun _ _ => (.slice σ.next 0 n (.rest 0), σ.push (.cells l T false))) n
theorem rowOut_ok {b0 : Base} {env : Env} {σ : SH} {w w' : World} {T : TypeId} {sz n : Nat} {l : List SV} {v : Value} {xs : List Value} (hr : Rel Tryz.prog b0 env σ w) (hb : Below w.heap.size w w') (hrow : w'.ownsRow w.heap.size T sz v n xs) (hnil : v = .slice none 0 0 ↔ n = 0)
    (hd : denL env l = some xs) (hsz : Tryz.prog.cellsOf T = sz) : ∃ env', env.le env' ∧ Rel Tryz.prog b0 env' (rowOut T σ n l).2 w' ∧ den env' (rowOut T σ n l).1 = some v := by
  have hl := denL_length hd
  cases n with
  | zero =>
    rw [hnil.2 rfl]
    exact ⟨env, Env.le_refl _, hr.world hb, rfl⟩
  | succ n =>
    have hlen := hrow.1
    rcases hrow.2 with ⟨rfl, h0⟩ | ⟨g', cap', cur', rfl, hbase', hgb', hr1, hr2, hr3, hr4⟩
    · cases h0
    · have hnew := Env.new env σ.next g' cap'
      have hle := hr.le_push g' cap'
      have hO : ORel Tryz.prog (env.push σ.next g' cap') w' g' cap' (.cells l T false) :=
        ⟨cur', T, (0, 0), xs, hgb', thawed_zero _, denL_mono hle _ _ hd, by rw [← hl, hlen]; exact hr4, fun hx => absurd hx (by decide), fun _ => ⟨by rw [hsz]; exact hr3, hr2⟩⟩
      exact ⟨_, hle, hr.adopt hb hbase' hO, by simp only [rowOut, den, hnew, capOf]; rfl⟩

/-- What the map in a box holds. -/
theorem Rel.boxed {b0 : Base} {env : Env} {σ : SH} {w : World} (hr : Rel Tryz.prog b0 env σ w) {x m : Nat} {e1 : TypeId} {x1 : Bool} {es : List (SV × SV)} (hx : σ.get x = some (.cells [.map m] e1 x1)) (hm : σ.get m = some (.map es)) :
    ∃ bx cx bm ents ks, env.blocks x = some (bx, cx) ∧ bx < w.heap.size ∧ w.cell? ⟨bx, 0, none⟩ = some (.map (some bm)) ∧ w.heap[bm]? = some (.map ents ents.size) ∧ denL env (es.map (·.1)) = some ks ∧ ents.toList.map (·.key) = ks ∧ (∀ (i : Nat) (y : MapEntry), ents[i]? = some y → y.born = i) ∧ ents.size = es.length := by
  obtain ⟨bx, cx, hbx, _, hOx⟩ := hr.obj x _ hx
  obtain ⟨bm, cm, hbm, _, hOm⟩ := hr.obj m _ hm
  obtain ⟨cur, t, fr, us, hcur, hth, hus, htake, _⟩ := hOx
  obtain ⟨ents, clock, kvs, vvs, hents, hkv, hvv, hkeys, hvals, hclock, hborn⟩ := hOm
  obtain rfl : us = [.map (some bm)] := by
    obtain ⟨v, us', h1, h2, rfl⟩ := denL_cons hus
    obtain ⟨bm2, k2, h3, rfl⟩ := den_map h1
    rw [hbm] at h3; cases h3
    simp only [denL] at h2; cases h2; rfl
  subst hclock
  have hBm : bx < w.heap.size := (Array.getElem?_eq_some_iff.1 hcur).1
  refine ⟨bx, cx, bm, ents, kvs, hbx, hBm, ?_, hents, hkv, hkeys, hborn, ?_⟩
  · rw [cell_of_row w bx 0 cur t fr hcur]
    have := congrArg (·[0]?) htake
    simpa using this
  · have := denL_length hkv
    rw [← hkeys] at this
    simpa using this

noncomputable def collectIOut (args : List SV) (σ : SH) : Option Outs := match args with
  | [.fn (.func g) [] [.ptr x 0]] => (match σ.get x with
    | some (.cells [.map m] _ _) => (match σ.get m with
      | some (.map es) => (match idKeys es with
        | some kl => @Bool.rec (fun _ => Option Outs) none (some ((perms kl).map fun p => rowOut 26 σ p.length p.flatten)) (Nat.beq g 61 && Nat.ble es.length 4)
        | none => none)
      | _ => none)
    | _ => none)
  | _ => none
theorem collectIOut_ok (b0 : Base) {args : List SV} {σ : SH} {outs : Outs} {env : Env} {w : World} {vs : List Value} (h : collectIOut args σ = some outs) (hr : Rel Tryz.prog b0 env σ w) (ha : denL env args = some vs) :
    Calls Tryz.prog 59 vs.toArray w (Comes1 Tryz.prog b0 env outs) := by
  unfold collectIOut at h
  split at h
  · rename_i g x
    split at h
    · rename_i m e1 x1 hx
      split at h
      · rename_i es hm
        split at h
        · rename_i kl hkl
          cases hc : (Nat.beq g 61 && Nat.ble es.length 4) with
          | false => rw [hc] at h; cases h
          | true =>
            rw [hc] at h
            replace h : some ((perms kl).map fun p => rowOut 26 σ p.length p.flatten) = some outs := h
            cases h
            rw [Bool.and_eq_true] at hc
            have hg := Nat.eq_of_beq_eq_true hc.1
            have hle4 := Nat.le_of_ble_eq_true hc.2
            subst hg
            obtain ⟨bx, cx, bm, ents, ks, hbx, hBm, hcell, hents, hkv, hkeys, hborn, hsz⟩ := hr.boxed hx hm
            obtain ⟨ps, p1, p2, p3⟩ := idKeys_ok hkl hkv
            have hkey : ∀ e ∈ ents.toList, ∃ kc : Array Value, e.key = .agg kc ∧ kc.size = 20 ∧ kc.all (·.oneCell') = true := fun e he => by
              have : e.key ∈ ks := hkeys ▸ List.mem_map.2 ⟨e, he, rfl⟩
              rw [← p2] at this
              obtain ⟨p, hp, he2⟩ := List.mem_map.1 this
              obtain ⟨_, q2, q3⟩ := p3 p hp
              exact ⟨p.2.toArray, he2.symm, by simpa using q2, by simpa using q3⟩
            obtain rfl : vs = [.func (.func 61) #[] #[.pointer (some ⟨bx, 0, none⟩)]] := by
              obtain ⟨v, us', h1, h2, rfl⟩ := denL_cons ha
              simp only [denL] at h2; cases h2
              simp only [den, denL, hbx, Option.some.injEq] at h1
              subst h1; rfl
            refine (collect_known w bx bm ents hkey hborn (by omega) hBm hcell hents).mono ?_
            rintro en w' ⟨v, ss, rfl, hperm, hrow, hnil, hb⟩
            rw [hkeys, ← p2] at hperm
            obtain ⟨qs, hq1, hq2⟩ := perm_lift _ _ _ hperm
            have hss : ss.flatMap keyCells = qs.flatMap (·.2) := by
              have : (qs.map fun p => p.2) = ss.map keyCells := by
                have e1 : (qs.map fun p => Value.agg p.2.toArray).map (fun v => match v with | .agg c => c.toList | _ => []) = (ss.map fun k => Value.agg k.kc).map (fun v => match v with | .agg c => c.toList | _ => []) := by rw [hq2]
                have e2 : (keyCells : IdK → List Value) = fun k => k.kc.toList := rfl
                rw [e2]
                simpa [List.map_map, Function.comp_def] using e1
              rw [List.flatMap_def, List.flatMap_def, this]
            have hlen : ss.length = (qs.map (·.1)).length := by
              have := congrArg List.length hq2
              simpa using this.symm
            have hd := denL_flatten qs (fun p hp => (p3 p (hq1.mem_iff.1 hp)).1)
            rw [hss, hlen] at hrow
            have hnil' : v = .slice none 0 0 ↔ (qs.map (·.1)).length = 0 := by
              rw [hnil, ← hlen]; exact List.length_eq_zero_iff.symm
            obtain ⟨env', h1, h2, h3⟩ := rowOut_ok hr hb hrow hnil' hd (by kernel_rfl)
            refine ⟨_, List.mem_map.2 ⟨qs.map (·.1), ?_, rfl⟩, env', v, rfl, h1, h2, h3⟩
            rw [← p1]
            exact mem_perms _ _ (hq1.map _)
        · cases h
      · cases h
    · cases h
  · cases h

/-- The string keys of a map. -/
def strKeysS : List (SV × SV) → Option (List (List Nat))
  | [] => some []
  | (.str l, _) :: r => match strKeysS r with
    | some m => some (l :: m)
    | none => none
  | _ :: _ => none
theorem strKeysS_ok {env : Env} : ∀ {es : List (SV × SV)} {kl : List (List Nat)} {ks : List Value}, strKeysS es = some kl → denL env (es.map (·.1)) = some ks → ks = kl.map fun l => Value.string (bytesOf l) := by
  intro es
  induction es with
  | nil =>
    intro kl ks h hd
    simp only [strKeysS] at h; cases h
    simp only [List.map_nil, denL] at hd; cases hd; rfl
  | cons x r ih =>
    intro kl ks h hd
    obtain ⟨a, u⟩ := x
    cases a <;> simp only [strKeysS] at h <;> try (cases h; done)
    cases hr : strKeysS r with
    | none => rw [hr] at h; cases h
    | some m =>
      rw [hr] at h; cases h
      obtain ⟨v, us, h1, h2, rfl⟩ := denL_cons (show denL env (SV.str _ :: r.map (·.1)) = some ks from hd)
      simp only [den, Option.some.injEq] at h1; subst h1
      rw [List.map_cons, ih hr h2]
theorem denL_strs {env : Env} : ∀ (l : List (List Nat)), denL env (l.map SV.str) = some (l.map fun x => Value.string (bytesOf x)) := by
  intro l
  induction l with
  | nil => rfl
  | cons x r ih => rw [List.map_cons, List.map_cons]; exact denL_mk (by simp only [den]) ih
noncomputable def collectFOut (args : List SV) (σ : SH) : Option Outs := match args with
  | [.fn (.func g) [] [.ptr x 0]] => (match σ.get x with
    | some (.cells [.map m] _ _) => (match σ.get m with
      | some (.map es) => (match strKeysS es with
        | some kl => @Bool.rec (fun _ => Option Outs) none (some ((perms kl).map fun p => rowOut 9 σ p.length (p.map SV.str))) (Nat.beq g 151 && Nat.ble es.length 4)
        | none => none)
      | _ => none)
    | _ => none)
  | _ => none
theorem collectFOut_ok (b0 : Base) {args : List SV} {σ : SH} {outs : Outs} {env : Env} {w : World} {vs : List Value} (h : collectFOut args σ = some outs) (hr : Rel Tryz.prog b0 env σ w) (ha : denL env args = some vs) :
    Calls Tryz.prog 149 vs.toArray w (Comes1 Tryz.prog b0 env outs) := by
  unfold collectFOut at h
  split at h
  · rename_i g x
    split at h
    · rename_i m e1 x1 hx
      split at h
      · rename_i es hm
        split at h
        · rename_i kl hkl
          cases hc : (Nat.beq g 151 && Nat.ble es.length 4) with
          | false => rw [hc] at h; cases h
          | true =>
            rw [hc] at h
            replace h : some ((perms kl).map fun p => rowOut 9 σ p.length (p.map SV.str)) = some outs := h
            cases h
            rw [Bool.and_eq_true] at hc
            have hg := Nat.eq_of_beq_eq_true hc.1
            have hle4 := Nat.le_of_ble_eq_true hc.2
            subst hg
            obtain ⟨bx, cx, bm, ents, ks, hbx, hBm, hcell, hents, hkv, hkeys, hborn, hsz⟩ := hr.boxed hx hm
            have hks := strKeysS_ok hkl hkv
            have hkey : ∀ e ∈ ents.toList, ∃ s : ByteArray, e.key = .string s := fun e he => by
              have : e.key ∈ ks := hkeys ▸ List.mem_map.2 ⟨e, he, rfl⟩
              rw [hks] at this
              obtain ⟨l, _, he2⟩ := List.mem_map.1 this
              exact ⟨_, he2.symm⟩
            obtain rfl : vs = [.func (.func 151) #[] #[.pointer (some ⟨bx, 0, none⟩)]] := by
              obtain ⟨v, us', h1, h2, rfl⟩ := denL_cons ha
              simp only [denL] at h2; cases h2
              simp only [den, denL, hbx, Option.some.injEq] at h1
              subst h1; rfl
            refine (collectF_known w bx bm ents hkey hborn (by omega) hBm hcell hents).mono ?_
            rintro en w' ⟨v, ss, rfl, hperm, hrow, hnil, hb⟩
            rw [hkeys, hks] at hperm
            obtain ⟨qs, hq1, hq2⟩ := perm_lift _ _ _ hperm
            have hlen : ss.length = qs.length := by
              have := congrArg List.length hq2
              simpa using this.symm
            have hd := denL_strs (env := env) qs
            rw [hq2] at hd
            rw [hlen] at hrow
            have hnil' : v = .slice none 0 0 ↔ qs.length = 0 := by
              rw [hnil, ← hlen]; exact List.length_eq_zero_iff.symm
            obtain ⟨env', h1, h2, h3⟩ := rowOut_ok hr hb hrow hnil' hd (by kernel_rfl)
            exact ⟨_, List.mem_map.2 ⟨qs, mem_perms _ _ hq1, rfl⟩, env', v, rfl, h1, h2, h3⟩
        · cases h
      · cases h
    · cases h
  · cases h
end Go.Proofs.YtnlijlabkoefbaaGreatDoor
