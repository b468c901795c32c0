/-
  A closed call over one known block, as a summary for every heap that holds such a block.
-/
import Derived.Test.YthenjjonphoklaaGreatDoorExec
set_option linter.unusedVariables false
set_option linter.unusedSimpArgs false
namespace Go.Proofs.YthenjjonphoklaaGreatDoor
open Go Go.RowKit

variable {P : Program}

mutual
/-- A value without names. -/
def plainS : SV → Bool
  | .int _ _ | .bool _ | .str _ | .nilp | .nils | .nilm | .nilf | .nili | .undef => true
  | .agg l => plainL l
  | .tuple l => plainL l
  | .iface _ v => plainS v
  | _ => false
def plainL : List SV → Bool
  | [] => true
  | x :: r => plainS x && plainL r
end
mutual
theorem den_plain (e e' : Env) : ∀ (s : SV), plainS s = true → den e s = den e' s
  | .int _ _, _ | .bool _, _ | .str _, _ | .nilp, _ | .nils, _ | .nilm, _ | .nilf, _ | .nili, _ | .undef, _ => by simp only [den]
  | .agg l, h => by simp only [plainS] at h; simp only [den, denL_plain e e' l h]
  | .tuple l, h => by simp only [plainS] at h; simp only [den, denL_plain e e' l h]
  | .iface t v, h => by simp only [plainS] at h; simp only [den, den_plain e e' v h]
  | .ptr _ _, h | .gptr _ _, h | .slice _ _ _ _, h | .map _, h | .fn _ _ _, h | .opq _, h | .zslice _ _ _ _ _, h | .num _ _ _, h => by simp [plainS] at h
theorem denL_plain (e e' : Env) : ∀ (l : List SV), plainL l = true → denL e l = denL e' l
  | [], _ => by simp only [denL]
  | x :: r, h => by
    simp only [plainL, Bool.and_eq_true] at h
    simp only [denL, den_plain e e' x h.1, denL_plain e e' r h.2]
end

theorem ORel.plain {env env' : Env} {w : World} {b c : Nat} {l : List SV} {e : TypeId} {x : Bool} (h : ORel P env w b c (.cells l e x)) (hp : plainL l = true) : ORel P env' w b c (.cells l e x) := by
  obtain ⟨cur, t, fr, vs, h1, h2, h3, h4⟩ := h
  exact ⟨cur, t, fr, vs, h1, h2, (denL_plain env' env l hp).trans h3, h4⟩

theorem relAt (given : Nat → Value) {env : Env} {w : World} {b c : Nat} (hok : Okay P (baseAt w b)) {l : List SV} {e : TypeId} {x : Bool} (hp : plainL l = true) (h : ORel P env w b c (.cells l e x)) :
    Rel P (baseAt w b) ((env0 given).push 0 b c) (sh0.push (.cells l e x)) w := by
  have hget : ∀ n o, (sh0.push (.cells l e x)).get n = some o → n = 0 ∧ o = .cells l e x := fun n o h => by
    rcases SH.get_push h with ⟨h1, h2⟩ | ⟨_, h⟩
    · exact ⟨h1, h2⟩
    · have := (SH.get_lt h).2
      simp only [sh0, Tr.get_leaf] at this
      cases this
  refine ⟨hok, ⟨rfl, rfl, rfl, Nat.le_refl _, fun k hk => ⟨hk.1, rfl⟩⟩, rfl, fun n hn => ?_, fun n o h' => ?_, fun n m o o' x y hne h h' => ?_⟩
  · have hn : 0 + 1 ≤ n := hn
    rw [Env.push_ne _ _ _ (by omega)]; rfl
  · obtain ⟨rfl, rfl⟩ := hget n o h'
    exact ⟨b, c, Env.new _ _ _ _, fun hk => hk.2 rfl, h.plain hp⟩
  · exact absurd ((hget n o h).1.trans (hget m o' h').1.symm) hne

/-- The frame: a closed call over one block that ends with that block as it was. -/
theorem frame_call (hm : P.follows .mixedOrders = true) {summ : CallF} (hsumm : ∀ b, CallSound P b summ) {d : Nat} {f : FuncId} {a : SV} {off len : Nat} {cap : SCap} {l : List SV} {e : TypeId} {x : Bool} {v : SV} {σf : SH}
    (hrun : exec P summ d f [a, .slice 0 off len cap] (sh0.push (.cells l e x)) = some [(v, σf)]) (hf : σf.get 0 = some (.cells l e x)) (ha : plainS a = true) (hl : plainL l = true) (hv : plainS v = true)
    {w0 : Base} {env : Env} {σ : SH} {w : World} {n : Nat} {vs : List Value} (ho : env.ones) (hr : Rel P w0 env σ w) (hn : σ.get n = some (.cells l e x)) (hd : denL env [a, .slice n off len cap] = some vs) :
    Calls P f vs.toArray w (Comes1 P w0 env [(v, σ)]) := by
  obtain ⟨b, c, hb, hnk, hO⟩ := hr.obj n _ hn
  have hblt : b < w.heap.size := hO.lt
  have hd1 : denL ((env0 env.given).push 0 b c) [a, .slice 0 off len cap] = some vs := by
    have e1 : ((env0 env.given).push 0 b c).blocks 0 = some (b, c) := Env.new _ _ _ _
    simp only [denL, den, e1] 
    simp only [denL, den, hb] at hd
    rw [den_plain _ env a ha]
    exact hd
  refine (exec_ok hm hsumm d (baseAt w b) f _ _ _ ((env0 env.given).push 0 b c) w vs hrun (fun i => ho i) (relAt env.given (okayAt hr.maxLen fun g hg (e : g = b) => hnk (by rw [← e]; exact hr.okay.2 g hg)) hl hO) hd1).mono ?_
  rintro en w' ⟨o, hmem, env', u, rfl, hle, hr', hdu⟩
  rw [List.mem_singleton.1 hmem] at hr' hdu
  have hb' : env'.blocks 0 = some (b, c) := hle.some 0 _ (Env.new _ _ _ _)
  obtain ⟨b2, c2, hb2, _, hO2⟩ := hr'.obj 0 _ hf
  rw [hb'] at hb2; cases hb2
  refine ⟨_, List.mem_singleton.2 rfl, env, u, rfl, Env.le_refl _, ?_, (den_plain env env' v hv).trans hdu⟩
  have hsame : ∀ k, k < w.heap.size → k ≠ b → w'.heap[k]? = w.heap[k]? := fun k h1 h2 => (hr'.below.block k ⟨h1, h2⟩).2
  refine ⟨hr.okay, ⟨hr'.below.os.trans hr.below.os, hr'.below.tape.trans hr.below.tape, hr'.below.output.trans hr.below.output, Nat.le_trans hr.below.size hr'.below.size, fun k hk => ?_⟩, hr.nx, hr.fresh, fun m o hm' => ?_, hr.apart⟩
  · obtain ⟨h1, h2⟩ := hr.below.block k hk
    exact ⟨h1, (hsame k (Nat.lt_of_lt_of_le h1 hr.below.size) (fun e => hnk (e ▸ hk))).trans h2⟩
  · obtain ⟨b3, c3, h1, h2, h3⟩ := hr.obj m o hm'
    by_cases hmn : m = n
    · subst hmn
      rw [hn] at hm'; cases hm'
      rw [hb] at h1; cases h1
      exact ⟨b, c, hb, hnk, hO2.plain hl⟩
    · exact ⟨b3, c3, h1, h2, h3.ext ⟨rfl, fun _ _ h => h⟩ (hsame b3 h3.lt (fun e => hr.apart m n _ _ _ _ hmn hm' hn h1 hb e))⟩

/-- The check that a closed run leaves its one block as it was. -/
noncomputable def frameChk (v : SV) (l : List SV) (e : TypeId) (x : Bool) (r : Option Outs) : Bool := match r with
  | some [(y, σ)] => eqS y v && (match σ.get 0 with
    | some (.cells l' e' x') => eqSL l' l && Nat.beq e' e && (x' == x)
    | _ => false)
  | _ => false
theorem frameChk_ok {v : SV} {l : List SV} {e : TypeId} {x : Bool} {r : Option Outs} (h : frameChk v l e x r = true) : ∃ σf, r = some [(v, σf)] ∧ σf.get 0 = some (.cells l e x) := by
  unfold frameChk at h
  split at h
  · rename_i y σ
    rw [Bool.and_eq_true] at h
    obtain ⟨h1, h2⟩ := h
    split at h2
    · rename_i l' e' x' hg
      simp only [Bool.and_eq_true, beq_iff_eq] at h2
      obtain ⟨⟨h3, h4⟩, rfl⟩ := h2
      exact ⟨σ, by rw [eqS_ok _ _ h1], by rw [hg, eqSL_ok _ _ h3, Nat.eq_of_beq_eq_true h4]⟩
    · cases h2
  · cases h
/-- The summary that such a run gives. -/
noncomputable def frameOut (a : SV) (off len : Nat) (cap : SCap) (l : List SV) (e : TypeId) (x : Bool) (v : SV) (args : List SV) (σ : SH) : Option Outs := match args with
  | [a', .slice n off' len' cap'] => @Bool.rec (fun _ => Option Outs) none (match σ.get n with
    | some (.cells l' e' x') => @Bool.rec (fun _ => Option Outs) none (some [(v, σ)]) (eqSL l' l && Nat.beq e' e && (x' == x))
    | _ => none) (eqS a' a && Nat.beq off' off && Nat.beq len' len && eqCap cap' cap)
  | _ => none
theorem frameOut_ok (hm : P.follows .mixedOrders = true) {summ : CallF} (hsumm : ∀ b, CallSound P b summ) {d : Nat} {f : FuncId} {a : SV} {off len : Nat} {cap : SCap} {l : List SV} {e : TypeId} {x : Bool} {v : SV}
    (hrun : frameChk v l e x (exec P summ d f [a, .slice 0 off len cap] (sh0.push (.cells l e x))) = true) (ha : plainS a = true) (hl : plainL l = true) (hv : plainS v = true)
    {w0 : Base} {env : Env} {σ : SH} {w : World} {args : List SV} {outs : Outs} {vs : List Value} (h : frameOut a off len cap l e x v args σ = some outs) (ho : env.ones) (hr : Rel P w0 env σ w) (hd : denL env args = some vs) :
    Calls P f vs.toArray w (Comes1 P w0 env outs) := by
  obtain ⟨σf, h1, h2⟩ := frameChk_ok hrun
  unfold frameOut at h
  split at h
  · rename_i a' n off' len' cap'
    cases hc : (eqS a' a && Nat.beq off' off && Nat.beq len' len && eqCap cap' cap) with
    | false => rw [hc] at h; exact absurd (show (none : Option Outs) = some outs from h) (by simp)
    | true =>
      rw [hc] at h
      simp only [Bool.and_eq_true] at hc
      obtain ⟨⟨⟨c1, c2⟩, c3⟩, c4⟩ := hc
      obtain rfl := eqS_ok _ _ c1
      obtain rfl := Nat.eq_of_beq_eq_true c2
      obtain rfl := Nat.eq_of_beq_eq_true c3
      obtain rfl := eqCap_ok c4
      replace h : (match σ.get n with
        | some (.cells l' e' x') => @Bool.rec (fun _ => Option Outs) none (some [(v, σ)]) (eqSL l' l && Nat.beq e' e && (x' == x))
        | _ => none) = some outs := h
      split at h
      · rename_i l' e' x' hg
        cases hc : (eqSL l' l && Nat.beq e' e && (x' == x)) with
        | false => rw [hc] at h; exact absurd (show (none : Option Outs) = some outs from h) (by simp)
        | true =>
          rw [hc] at h
          replace h : some [(v, σ)] = some outs := h
          cases h
          simp only [Bool.and_eq_true, beq_iff_eq] at hc
          obtain ⟨⟨d1, d2⟩, rfl⟩ := hc
          obtain rfl := eqSL_ok _ _ d1
          obtain rfl := Nat.eq_of_beq_eq_true d2
          exact frame_call hm hsumm h1 h2 ha hl hv ho hr hg hd
      · cases h
  · cases h
end Go.Proofs.YthenjjonphoklaaGreatDoor
