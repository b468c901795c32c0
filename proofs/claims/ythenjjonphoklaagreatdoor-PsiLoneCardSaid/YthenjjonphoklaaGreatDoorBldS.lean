/-
  strings.Builder's copyCheck and String, as the executor's summaries.
-/
import Derived.Test.YthenjjonphoklaaGreatDoorHexS
import Derived.Test.YthenjjonphoklaaGreatDoorOnF
set_option linter.unusedVariables false
set_option linter.unusedSimpArgs false
namespace Go.Proofs.YthenjjonphoklaaGreatDoor
open Go Go.RowKit

/-- copyCheck: the builder knows where it lies. -/
noncomputable def copyOut (args : List SV) (σ : SH) : Option Outs := match args with
  | [.ptr n 0] => (match σ.get n with
    | some (.cells (.nilp :: [y]) e true) => @Bool.rec (fun _ => Option Outs) none (some [(.tuple [], σ.put n (some (.cells (patch (.nilp :: [y]) 0 [.ptr n 0]) e true)))]) (Nat.beq e 150)
    | some (.cells (.ptr m 0 :: [y]) e true) => @Bool.rec (fun _ => Option Outs) none (some [(.tuple [], σ)]) (Nat.beq m n)
    | _ => none)
  | _ => none
theorem copyOut_ok (b0 : Base) {args : List SV} {σ : SH} {outs : Outs} {env : Env} {w : World} {vs : List Value} (h : copyOut args σ = some outs) (ho : env.ones) (hr : Rel Tryz.prog b0 env σ w) (ha : denL env args = some vs) :
    Calls Tryz.prog 99 vs.toArray w (Comes1 Tryz.prog b0 env outs) := by
  unfold copyOut at h
  split at h
  · rename_i n
    obtain ⟨v, us, h1, h2, rfl⟩ := denL_cons ha
    simp only [denL] at h2; cases h2
    obtain ⟨b, c, hb, rfl⟩ := den_ptr h1
    split at h
    · rename_i y e hn
      cases hc : Nat.beq e 150 with
      | false => rw [hc] at h; cases h
      | true =>
        rw [hc] at h
        replace h : some [(SV.tuple [], σ.put n (some (.cells (patch (.nilp :: [y]) 0 [.ptr n 0]) e true)))] = some outs := h
        cases h
        obtain rfl := Nat.eq_of_beq_eq_true hc
        obtain ⟨b', c', e1, hnk, cur, t, fr, xs, g1, g2, g3, g4, g5, g6⟩ := hr.obj n _ hn
        rw [hb] at e1; cases e1
        obtain ⟨g5a, rfl⟩ := g5 rfl
        obtain ⟨x, hx, c0, f0⟩ := hr.cell hn hb (i := 0) (s := .nilp) rfl
        simp only [den, Option.some.injEq] at hx; subst hx
        have hsh : w.shape? b = some (150, 2) := by simp only [World.shape?, g1]; rw [g5a]; rfl
        refine (copyCheck_fresh b w c0 hsh f0).mono ?_
        rintro en w' ⟨rfl, rfl⟩
        have hv : denL env [SV.ptr n 0] = some [Value.pointer (some ⟨b, 0, none⟩)] := denL_mk h1 rfl
        obtain ⟨_, hR⟩ := hr.setCells ho hn hb (off := 0) (news := [.ptr n 0]) (by simp) rfl hv
        exact ⟨_, List.mem_singleton.2 rfl, env, _, rfl, Env.le_refl _, hR, by simp only [den, denL]⟩
    · rename_i m y e hn
      cases hc : Nat.beq m n with
      | false => rw [hc] at h; cases h
      | true =>
        rw [hc] at h
        replace h : some [(SV.tuple [], σ)] = some outs := h
        cases h
        obtain rfl := Nat.eq_of_beq_eq_true hc
        obtain ⟨x, hx, c0, f0⟩ := hr.cell hn hb (i := 0) (s := .ptr m 0) rfl
        rw [h1] at hx; cases hx
        refine (copyCheck_used b w c0).mono ?_
        rintro en w' ⟨rfl, rfl⟩
        exact ⟨_, List.mem_singleton.2 rfl, env, _, rfl, Env.le_refl _, hr, by simp only [den, denL]⟩
    · cases h
  · cases h

/-- A row behind a freeze: no other block is touched. -/
theorem freeze_other (w : World) (a : Addr) (n : Nat) (k : Nat) (hk : k ≠ a.block) : (w.freeze a n).heap[k]? = w.heap[k]? := by
  unfold World.freeze
  split
  · rfl
  · simp only
    rw [Array.getElem?_modify]
    rw [if_neg (Ne.symm hk)]
theorem freeze_size (w : World) (a : Addr) (n : Nat) : (w.freeze a n).heap.size = w.heap.size := by
  unfold World.freeze
  split
  · rfl
  · simp only [Array.size_modify]
set_option maxHeartbeats 1000000 in
set_option maxRecDepth 100000 in
theorem builderString_at (b g cap : Nat) (l : List UInt8) (w : World) (h1 : w.cell? ⟨b, 1, none⟩ = some (.slice (some ⟨g, 0, none⟩) l.length cap)) (h0 : l ≠ []) (hcap : l.length ≤ cap) (size : Nat) (hsh : w.shape? g = some (5, size)) (hsz : l.length ≤ size) (hmax : l.length ≤ 9223372036854775807)
    (hcell : ∀ j x, l[j]? = some x → w.cell? ⟨g, j, none⟩ = some (.int .u8 x.toNat)) :
    Calls Tryz.prog 74 #[.pointer (some ⟨b, 0, none⟩)] w fun e w' => e = .returned (.string ⟨l.toArray⟩) ∧ w'.os = w.os ∧ w'.tape = w.tape ∧ w'.output = w.output ∧ w'.heap.size = w.heap.size ∧ ∀ k, k ≠ g → w'.heap[k]? = w.heap[k]? := by
  have hl0 : l.length ≠ 0 := by simpa using h0
  have c1 : w.drew.cell? ⟨b, 1, none⟩ = some (.slice (some ⟨g, 0, none⟩) l.length cap) := h1
  have hSD : (Builtin.unsafeSliceData_ #[50] 184 #[.slice (some ⟨g, 0, none⟩) l.length cap]).run Tryz.prog w.drew = .ok (.pointer (some ⟨g, 0, none⟩)) w.drew :=
    Lib.run_unsafeSliceData_row _ _ _ _ _ _ (by omega)
  have hUS : (Builtin.unsafeString_ #[184, 3] 9 #[.pointer (some ⟨g, 0, none⟩), .int .i64 l.length]).run Tryz.prog w.drew = .ok (.string ⟨l.toArray⟩) (w.drew.freeze ⟨g, 0, none⟩ l.length) := by
    refine Lib.run_unsafeString_row w.drew 184 3 9 5 Tryz.underlying184 cellsByte g size hsh l h0 hsz hmax ?_
    intro j x hx
    rw [show ((⟨g, 0, none⟩ : Addr).add j) = ⟨g, j, none⟩ from by rw [add_none, Nat.zero_add]]
    exact hcell j x hx
  go_enter Tryz.func74, Tryz.ntmps74
  go_wp2
  go_region
  all_goals (go_wp2; go_ret; exact ⟨rfl, by unfold World.freeze; split <;> rfl, by unfold World.freeze; split <;> rfl, by unfold World.freeze; split <;> rfl, (freeze_size w.drew _ _), fun k hk => freeze_other w.drew ⟨g, 0, none⟩ _ k hk⟩)
noncomputable def strOut (args : List SV) (σ : SH) : Option Outs := match args with
  | [.ptr n 0] => (match σ.get n with
    | some (.cells [a, .slice m 0 len (.rest 0)] e0 x0) => (match σ.get m with
      | some (.cells l e false) => (match bytesL (takeR l len) with
        | some ks => @Bool.rec (fun _ => Option Outs) none (some [(.str ks, σ.put m none)]) (Nat.beq ks.length len && Nat.blt 0 len && Nat.ble len 1000000 && Nat.beq e 5)
        | none => none)
      | _ => none)
    | _ => none)
  | _ => none
theorem strOut_ok (b0 : Base) {args : List SV} {σ : SH} {outs : Outs} {env : Env} {w : World} {vs : List Value} (h : strOut args σ = some outs) (ho : env.ones) (hr : Rel Tryz.prog b0 env σ w) (ha : denL env args = some vs) :
    Calls Tryz.prog 74 vs.toArray w (Comes1 Tryz.prog b0 env outs) := by
  unfold strOut at h
  split at h
  · rename_i n
    obtain ⟨v, us, h1, h2, rfl⟩ := denL_cons ha
    simp only [denL] at h2; cases h2
    obtain ⟨b, c, hb, rfl⟩ := den_ptr h1
    split at h
    · rename_i a m len e0 x0 hn
      split at h
      · rename_i l e hm
        rw [takeR_eq] at h
        split at h
        · rename_i ks hks
          cases hc : (Nat.beq ks.length len && Nat.blt 0 len && Nat.ble len 1000000 && Nat.beq e 5) with
          | false => rw [hc] at h; cases h
          | true =>
            rw [hc] at h
            replace h : some [(SV.str ks, σ.put m none)] = some outs := h
            cases h
            simp only [Bool.and_eq_true] at hc
            obtain ⟨⟨⟨c1, c2⟩, c3⟩, c4⟩ := hc
            have c1 := Nat.eq_of_beq_eq_true c1
            have c2 : 0 < len := Nat.le_of_ble_eq_true c2
            have c3 := Nat.le_of_ble_eq_true c3
            obtain rfl := Nat.eq_of_beq_eq_true c4
            obtain ⟨bm, cm, hbm, hnk, hO⟩ := hr.obj m _ hm
            have hO' := hO
            obtain ⟨cur, t, fr, us, hcur, hth, hus, htake, _, h6⟩ := hO'
            obtain ⟨hsz, hcm, rfl⟩ := h6 rfl
            rw [cellsByte, Nat.mul_one] at hsz
            have hsl := bytesL_ok hks (denL_take len hus)
            have hlen : (ks.map UInt8.ofNat).length = len := by simpa using c1
            have hle : len ≤ cur.size := by
              have e1 := congrArg List.length hsl
              rw [List.length_take] at e1
              have e2 : (Lib.byteCells (ks.map UInt8.ofNat)).length = len := by rw [Lib.byteCells_length]; exact hlen
              rw [e2] at e1
              have e3 := congrArg List.length htake
              rw [List.length_take] at e3
              simp only [Array.length_toList] at e3
              omega
            obtain ⟨v1, hv1, cv1, _⟩ := hr.cell hn hb (i := 1) (s := .slice m 0 len (.rest 0)) rfl
            simp only [den, hbm, Option.some.injEq, capOf, Nat.sub_zero] at hv1
            subst hv1
            have := builderString_at b bm cm (ks.map UInt8.ofNat) w (by rw [hlen]; exact cv1) (by intro he; rw [he] at hlen; simp at hlen; omega) (by omega) cur.size (by simp only [World.shape?, hcur]) (by omega) (by omega) (fun j x hx => by
              rw [cell_of_row w bm j cur _ fr hcur]
              have h1 : (us.take len)[j]? = some (.int .u8 x.toNat) := by
                rw [hsl]; unfold Lib.byteCells; rw [List.getElem?_map, hx]; rfl
              have hj : j < len := by
                rcases Nat.lt_or_ge j len with h | h
                · exact h
                · rw [List.getElem?_eq_none (by omega)] at hx; cases hx
              rw [List.getElem?_take_of_lt hj, ← htake] at h1
              rw [← Array.getElem?_toList]
              rw [List.getElem?_take] at h1
              split at h1
              · exact h1
              · cases h1)
            refine this.mono ?_
            rintro en w' ⟨rfl, q1, q2, q3, q4, q5⟩
            refine ⟨_, List.mem_singleton.2 rfl, env, _, rfl, Env.le_refl _, hr.put hm hbm q1 q2 q3 (Nat.le_of_eq q4.symm) (fun k _ hk => q5 k hk) (fun o' ho' => by cases ho'), ?_⟩
            simp only [den, bytesOf]
        · cases h
      · cases h
    · cases h
  · cases h
end Go.Proofs.YthenjjonphoklaaGreatDoor
