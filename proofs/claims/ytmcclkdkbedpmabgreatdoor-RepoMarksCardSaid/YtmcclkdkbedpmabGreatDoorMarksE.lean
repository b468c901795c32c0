/-
  RepoMarks: the walk.
-/
import Derived.Test.YtmcclkdkbedpmabGreatDoorJ6
import Derived.Test.YtmcclkdkbedpmabGreatDoorMarksD
set_option linter.unusedVariables false
set_option linter.unusedSectionVars false
set_option linter.unusedSimpArgs false
namespace Go.Proofs.YtmcclkdkbedpmabGreatDoor
open Go Go.RowKit

theorem isE_ok {r : Option Outs} (h : isE r = true) : r = some [] := by
  unfold isE at h
  split at h
  · rfl
  · cases h
theorem anewM {K1 K2 : Known} {b : Base} {env : Env} {st : Row} {σ : SH} {W : World} {a : Act} {γ : Nat → SV} {g : Nat → Value} {L : List SV} {m' : List Nat} (hr : @Rel K1 Tryz.prog b env σ W) (hf : FRel env st a) (hk : K2.ok b.w b.keep g) (hγ : ∀ i, i < 83 → den env (γ i) = some (g i)) (hc : chkM L γ m' st σ = true) :
    @Rel K2 Tryz.prog b (env.anew 1722 g) (heapOf 1722 (heapM m')) W ∧ FRel (env.anew 1722 g) (rowOf L 0) a := by
  unfold chkM at hc
  simp only [Bool.and_eq_true] at hc
  obtain ⟨⟨h1, h2⟩, h3⟩ := hc
  exact ⟨can_rel hr hk hγ h3, can_frel (env.anew_blocks g) hγ hf (Nat.eq_of_beq_eq_true h1) h2⟩
section
variable (AN AA : Option Addr) (nN cN nA cA : Nat)
/-- What is given at a loop's head. -/
structure GivenM (g : Nat → Value) : Prop where
  ones : ∀ i, (g i).oneCell' = true
  g0 : g 0 = .slice AN nN cN
  g1 : g 1 = .slice AA nA cA
  mid : ∀ j, 3 ≤ j → j < 83 → ∃ x : Nat, x < 256 ∧ g j = .int .u8 x
/-- A loop's head. -/
def HeadM (w : World) (L : List SV) (n : Nat) (a : Act) (W : World) : Prop := ∃ m ∈ statesM, ∃ env : Env, GivenM AN AA nN cN nA cA env.given ∧ env.given 2 = .int .i64 n ∧ Rel Tryz.prog (baseOf w) env (heapOf 1722 (heapM m)) W ∧ FRel env (rowOf L 0) a
end
theorem node_small (k c : Nat) : (nodeM k).getD c 0 < 256 := by
  have h : ∀ k, (nodeM k).all (fun x => decide (x < 256)) = true := fun k => by
    match k with
    | 0 => rfl
    | 1 => rfl
    | n + 2 => rfl
  rw [List.getD_eq_getElem?_getD]
  cases hx : (nodeM k)[c]? with
  | none => simp
  | some x => simpa using List.all_eq_true.1 (h k) x (List.mem_of_getElem? hx)
/-- The values of the next head. -/
noncomputable def nextG (env : Env) (γ : Nat → SV) (i : Nat) : Value := if i < 83 then (den env (γ i)).getD (.bool true) else .bool true
theorem gam_next {AN AA : Option Addr} {nN cN nA cA n : Nat} {env : Env} {src : List (Nat × SrcM)} (hg : GivenM AN AA nN cN nA cA env.given) (h106 : env.given 106 = .int .i64 ((n : Int) + 1)) :
    (∀ i, i < 83 → den env (gamM src i) = some (nextG env (gamM src) i)) ∧ GivenM AN AA nN cN nA cA (nextG env (gamM src)) ∧ nextG env (gamM src) 2 = .int .i64 ((n + 1 : Nat) : Int) := by
  have key : ∀ i, i < 83 → ∃ v, den env (gamM src i) = some v ∧ v.oneCell' = true ∧ (3 ≤ i → ∃ x : Nat, x < 256 ∧ v = .int .u8 x) := by
    intro i hi
    unfold gamM
    split
    · split
      · exact ⟨_, rfl, hg.ones _, fun h => by omega⟩
      · exact ⟨_, rfl, hg.ones _, fun h => by omega⟩
    · rename_i h3
      split
      · rename_i j _
        refine ⟨_, rfl, hg.ones _, fun _ => ?_⟩
        exact hg.mid _ (by omega) (by have := Nat.mod_lt j (show 0 < 4 by omega); have := Nat.mod_lt (i - 3) (show 0 < 20 by omega); omega)
      · rename_i k _
        exact ⟨_, rfl, rfl, fun _ => ⟨_, node_small k _, rfl⟩⟩
      · exact ⟨_, rfl, hg.ones _, fun _ => hg.mid i (by omega) hi⟩
  have hn : ∀ i, i < 83 → den env (gamM src i) = some (nextG env (gamM src) i) := fun i hi => by
    obtain ⟨v, h1, _⟩ := key i hi
    unfold nextG; rw [if_pos hi, h1]; rfl
  refine ⟨hn, ⟨fun i => ?_, ?_, ?_, fun j h3 hj => ?_⟩, ?_⟩
  · by_cases hi : i < 83
    · obtain ⟨v, h1, h2, _⟩ := key i hi
      unfold nextG; rw [if_pos hi, h1]; exact h2
    · unfold nextG; rw [if_neg hi]; rfl
  · have := hn 0 (by omega); simp [gamM, den] at this; rw [← this]; exact hg.g0
  · have := hn 1 (by omega); simp [gamM, den] at this; rw [← this]; exact hg.g1
  · obtain ⟨v, h1, _, h2⟩ := key j hj
    obtain ⟨x, hx, hv⟩ := h2 h3
    refine ⟨x, hx, ?_⟩
    unfold nextG; rw [if_pos hj, h1]; exact hv
  · have := hn 2 (by omega); simp [gamM, den] at this; rw [← this, h106]; simp
/-- The values of one round. -/
noncomputable def roundG (g : Nat → Value) (p1 p2 : Value) (x1 x2 : Int) (nN nA n : Nat) (i : Nat) : Value := if i < 83 then g i else if i = 100 then p1 else if i = 101 then .int .i64 x1 else if i = 102 then p2 else if i = 103 then .int .i64 x2 else if i = 104 then .int .i64 nN else if i = 105 then .int .i64 nA else if i = 106 then .int .i64 ((n : Int) + 1) else .bool true
theorem roundG_given {AN AA : Option Addr} {nN cN nA cA : Nat} {g : Nat → Value} {p1 p2 : Value} {x1 x2 : Int} {n : Nat} (hg : GivenM AN AA nN cN nA cA g) (h1 : p1.oneCell' = true) (h2 : p2.oneCell' = true) : GivenM AN AA nN cN nA cA (roundG g p1 p2 x1 x2 nN nA n) := by
  refine ⟨fun i => ?_, by unfold roundG; rw [if_pos (by omega)]; exact hg.g0, by unfold roundG; rw [if_pos (by omega)]; exact hg.g1, fun j h3 hj => by unfold roundG; rw [if_pos hj]; exact hg.mid j h3 hj⟩
  unfold roundG
  (repeat' split) <;> first | exact hg.ones _ | exact h1 | exact h2 | rfl
theorem and_l {a b : Bool} (h : (a && b) = true) : a = true := by cases a <;> simp_all
theorem and_r {a b : Bool} (h : (a && b) = true) : b = true := by cases a <;> simp_all
theorem mem_states {l : List Nat} (h : statesM.contains l = true) : l ∈ statesM := by simpa using h
/-- What the runs show of one round. -/
theorem oneR_all {m : List Nat} (hm : m ∈ statesM) (b2 : Bool) (r s : Nat) (hr : r < 4) (hs : s < 4) (hb : b2 = false → s = 0) : ∃ k, isE (codeO Tryz.prog (orcM false true b2 r s) oqM summMC 60 loopM (rowOf slotM 0) (heapOf 1722 (heapM m)) (kRound m true r k)) = true ∧ (nextM m r k).map (·.1) ∈ statesM := by
  have h := allRm m hm
  unfold stateR at h
  have h := and_r (and_r (and_r (and_r h)))
  have hrr : roundsR m r = true := by
    match r, hr with
    | 0, _ => exact and_l h
    | 1, _ => exact and_l (and_r h)
    | 2, _ => exact and_l (and_r (and_r h))
    | 3, _ => exact and_r (and_r (and_r h))
  unfold roundsR at hrr
  cases b2 with
  | false =>
    obtain rfl := hb rfl
    exact ⟨3, and_l hrr, mem_states (and_l (and_r hrr))⟩
  | true =>
    have h1 := and_r (and_r hrr)
    match s, hs with
    | 0, _ => exact ⟨0, and_l h1, mem_states (and_l (and_r h1))⟩
    | 1, _ => exact ⟨1, and_l (and_r (and_r h1)), mem_states (and_l (and_r (and_r (and_r h1))))⟩
    | 2, _ => exact ⟨2, and_l (and_r (and_r (and_r (and_r h1)))), mem_states (and_l (and_r (and_r (and_r (and_r (and_r h1))))))⟩
    | 3, _ => exact ⟨3, and_r (and_r (and_r (and_r (and_r (and_r h1))))), mem_states (and_l (and_r hrr))⟩

theorem kRound_go {m : List Nat} {r k : Nat} {st : Row} {σ : SH} {o : Outs} (h : kRound m true r k .normal st σ = some o) : chkM slotM (gamM (nextM m r k)) ((nextM m r k).map (·.1)) st σ = true := by
  unfold kRound at h
  generalize chkM slotM (gamM (nextM m r k)) ((nextM m r k).map (·.1)) st σ = c at h ⊢
  cases c with
  | false => cases h
  | true => rfl
theorem kRound_no1 {m : List Nat} {r k id : Nat} {st : Row} {σ : SH} {o : Outs} : ¬ kRound m true r k (.exit id) st σ = some o := fun h => by
  unfold kRound at h
  split at h <;> first | (rename_i e; cases e; done) | (rename_i e _; cases e; done) | (cases h; done)
theorem kRound_no2 {m : List Nat} {b1 : Bool} {r k : Nat} {st : Row} {σ : SH} {o : Outs} : ¬ kRound m b1 r k .ret st σ = some o := fun h => by
  unfold kRound at h
  split at h <;> first | (rename_i e; cases e; done) | (rename_i e _; cases e; done) | (cases h; done)
theorem kRound_no3 {m : List Nat} {r k : Nat} {st : Row} {σ : SH} {o : Outs} : ¬ kRound m false r k .normal st σ = some o := fun h => by
  unfold kRound at h
  split at h <;> first | (rename_i e; cases e; done) | (rename_i e _; cases e; done) | (cases h; done)
theorem kRound_end {m : List Nat} {r k id : Nat} {st : Row} {σ : SH} {o : Outs} (h : kRound m false r k (.exit id) st σ = some o) : id = 2 ∧ chkM slotP SV.opq m st σ = true := by
  unfold kRound at h
  generalize chkM slotP SV.opq m st σ = c at h ⊢
  split at h
  · rename_i e; cases e
  · rename_i e _
    injection e with e
    refine ⟨e, ?_⟩
    cases c with
    | false => cases h
    | true => rfl
  · cases h
theorem num_at {w : World} {A : Option Addr} {n : Nat} (h : IntsAt w (fun b => b < w.heap.size) A n) (k : Nat) : ∃ (p : Value) (x : Int) (r : Nat), r < 4 ∧ p.oneCell' = true ∧ (k < n → ∃ b off y, A = some ⟨b, off, none⟩ ∧ p = .pointer (some ⟨b, off + k, none⟩) ∧ b < w.heap.size ∧ w.cell? ⟨b, off + k, none⟩ = some (.int .i64 y) ∧ Value.int .i64 x = .int .i64 y ∧ IntKind.u64.wrap y % 4 = r) := by
  by_cases hk : k < n
  · obtain ⟨b, off, x, h1, h2, h3⟩ := h.cells k hk
    exact ⟨.pointer (some ⟨b, off + k, none⟩), x, (IntKind.u64.wrap x % 4).toNat, by omega, rfl, fun _ => ⟨b, off, x, h1, rfl, h2, h3, rfl, by omega⟩⟩
  · exact ⟨.bool true, 0, 0, by omega, rfl, fun h => absurd h hk⟩

set_option maxRecDepth 100000 in
/-- One round of the loop. -/
theorem round_any {AN AA : Option Addr} {nN cN nA cA : Nat} {w : World} (hN : IntsAt w (fun b => b < w.heap.size) AN nN) (hA : IntsAt w (fun b => b < w.heap.size) AA nA) (hbig : ¬ 30 < nN) (n : Nat) (hn : n ≤ nN) (a : Act) (W : World) (h : HeadM AN AA nN cN nA cA w slotM n a W) {Q : Exit → Act → World → Prop}
    (hnext : n < nN → ∀ a' W', HeadM AN AA nN cN nA cA w slotM (n + 1) a' W' → Q .normal a' W') (hexit : ¬ n < nN → ∀ a' W', HeadM AN AA nN cN nA cA w slotP n a' W' → Q (.exit 2) a' W') : loopM.wp Tryz.prog Q a W := by
  obtain ⟨m, hm, env, hg, h2, hr, hf⟩ := h
  have hst := allRm m hm
  unfold stateR at hst
  have hstart : chkM slotM SV.opq m (rowOf slotM 0) (heapOf 1722 (heapM m)) = true := and_l hst
  obtain ⟨p1, x1, r, hr4, hp1, hfirst⟩ := num_at hN n
  obtain ⟨p2, x2, s, hs4, hp2, hsecond⟩ := num_at hA n
  have hg1 := roundG_given (p1 := p1) (p2 := p2) (x1 := x1) (x2 := x2) (n := n) hg hp1 hp2
  have hag : ∀ i, i < 83 → den env (SV.opq i) = some (roundG env.given p1 p2 x1 x2 nN nA n i) := fun i hi => by
    simp only [den, roundG]; rw [if_pos hi]
  by_cases hlt : n < nN
  · obtain ⟨b2, s', hb2, hs', hs0, hsec⟩ : ∃ (b2 : Bool) (s' : Nat), b2 = decide (n < nA) ∧ s' < 4 ∧ (b2 = false → s' = 0) ∧ (b2 = true → s' = s) := by
      by_cases hnA : n < nA
      · exact ⟨true, s, by simp [hnA], hs4, fun h => (by cases h), fun _ => rfl⟩
      · exact ⟨false, 0, by simp [hnA], by omega, fun _ => rfl, fun h => (by cases h)⟩
    have hk : RoundM AN AA nN cN nA cA n false true b2 r s' w (fun b => b < w.heap.size) (roundG env.given p1 p2 x1 x2 nN nA n) := by
      refine ⟨hg1.g0, hg1.g1, ?_, ?_, ?_, ?_, hg1.mid, by simp [hbig], by simp [hlt], fun _ => hb2, fun _ => by omega, fun _ => ?_, fun _ hb => ?_⟩
      · unfold roundG; rw [if_pos (by omega)]; exact h2
      · rfl
      · rfl
      · rfl
      · obtain ⟨b, off, y, q1, q2, q3, q4, q5, q6⟩ := hfirst hlt
        exact ⟨b, off, y, q1, q2, q3, q4, q5, q6⟩
      · have hnA : n < nA := by rw [hb2] at hb; simpa using hb
        obtain ⟨b, off, y, q1, q2, q3, q4, q5, q6⟩ := hsecond hnA
        exact ⟨b, off, y, q1, q2, q3, q4, q5, by rw [hsec hb]; exact q6⟩
    obtain ⟨hr1, hf1⟩ := anewM (K2 := knownM AN AA nN cN nA cA n false true b2 r s') hr hf hk hag hstart
    obtain ⟨kk, hrun, hmem⟩ := oneR_all hm b2 r s' hr4 hs' hs0
    have hco := @codeO_ok (knownM AN AA nN cN nA cA n false true b2 r s') Tryz.prog (baseOf w) followsM _ _ orcM_ok (oqM_ok _ _ _ _ _) _ (fun b => @summMC_ok (knownM AN AA nN cN nA cA n false true b2 r s') b) 60 loopM
    refine hco _ _ _ _ (isE_ok hrun) (env.anew 1722 (roundG env.given p1 p2 x1 x2 nN nA n)) a W hg1.ones hr1 hf1 Q ?_
    intro x st' σ' outs' hkk _ env' a' W' hle hr' hf'
    have hgv := hle.given
    cases x with
    | normal =>
      have hc := kRound_go hkk
      have hg' : GivenM AN AA nN cN nA cA env'.given := by rw [hgv]; exact hg1
      obtain ⟨k1, k2, k3⟩ := gam_next (n := n) (src := nextM m r kk) hg' (by rw [hgv]; rfl)
      obtain ⟨hr2, hf2⟩ := anewM (K2 := knownAny) hr' hf' trivial k1 hc
      exact hnext hlt a' W' ⟨_, hmem, _, k2, k3, hr2, hf2⟩
    | exit id => exact absurd hkk kRound_no1
    | ret => exact absurd hkk kRound_no2
  · have hk : RoundM AN AA nN cN nA cA n false false false 0 0 w (fun b => b < w.heap.size) (roundG env.given p1 p2 x1 x2 nN nA n) := by
      refine ⟨hg1.g0, hg1.g1, ?_, rfl, rfl, rfl, hg1.mid, by simp [hbig], by simp [hlt], fun h => (by cases h), fun h => (by cases h), fun h => (by cases h), fun h => (by cases h)⟩
      unfold roundG; rw [if_pos (by omega)]; exact h2
    obtain ⟨hr1, hf1⟩ := anewM (K2 := knownM AN AA nN cN nA cA n false false false 0 0) hr hf hk hag hstart
    have hrun : oneR m false false 0 0 = true := and_l (and_r (and_r (and_r hst)))
    unfold oneR at hrun
    have hco := @codeO_ok (knownM AN AA nN cN nA cA n false false false 0 0) Tryz.prog (baseOf w) followsM _ _ orcM_ok (oqM_ok _ _ _ _ _) _ (fun b => @summMC_ok (knownM AN AA nN cN nA cA n false false false 0 0) b) 60 loopM
    refine hco _ _ _ _ (isE_ok hrun) (env.anew 1722 (roundG env.given p1 p2 x1 x2 nN nA n)) a W hg1.ones hr1 hf1 Q ?_
    intro x st' σ' outs' hkk _ env' a' W' hle hr' hf'
    have hgv := hle.given
    cases x with
    | normal => exact absurd hkk kRound_no3
    | ret => exact absurd hkk kRound_no2
    | exit id =>
      obtain ⟨rfl, hc⟩ := kRound_end hkk
      have hg' : GivenM AN AA nN cN nA cA env'.given := by rw [hgv]; exact hg1
      obtain ⟨hr2, hf2⟩ := anewM (K2 := knownAny) (g := env'.given) hr' hf' trivial (fun i _ => rfl) hc
      have e2 : env'.given 2 = .int .i64 n := by
        rw [hgv]
        show roundG env.given p1 p2 x1 x2 nN nA n 2 = _
        unfold roundG; rw [if_pos (by omega)]; exact h2
      exact hexit hlt a' W' ⟨m, hm, env'.anew 1722 env'.given, hg', e2, hr2, hf2⟩

theorem body_eq : bodyM = seqsC preM (.seq (.seq zeroM (.block 2 (.loop loopM))) postM) := by kernel_rfl
theorem body_some : Tryz.f3.body = some bodyM := by kernel_rfl
/-- The law's end. -/
abbrev RetM (w : World) (e : Ending) (w' : World) : Prop := e = .returned (.bool true) ∧ Below w.heap.size w w'
theorem end_true [Known] {w : World} {env : Env} {st : Row} {σ : SH} {W : World} {a : Act} {l outs' : Outs} {x : SX} (hx : x = .normal ∨ x = .ret) (hall : ∀ o ∈ l, o.1 = .bool true) (hsub : ∀ y ∈ outs', y ∈ l)
    (hk : endK Tryz.prog Tryz.f3.results.toList x st σ = some outs') (hr : Rel Tryz.prog (baseOf w) env σ W) (hf : FRel env st a) : bodyPost Tryz.prog Tryz.f3 (RetM w) x.to a W := by
  have key : ∀ rs, sRes Tryz.prog st σ Tryz.f3.results.toList = some rs → outs' = [(oneOr rs, σ)] → ∀ e : Exit, e = .normal ∨ e = .ret → bodyPost Tryz.prog Tryz.f3 (RetM w) e a W := by
    intro rs h1 h2 e he
    refine end_ok hr hf h1 (fun v hv => ?_) he
    have h3 := hall _ (hsub (oneOr rs, σ) (by rw [h2]; exact List.mem_singleton.2 rfl))
    simp only at h3
    rw [h3] at hv
    simp only [den, Option.some.injEq] at hv
    exact ⟨by rw [← hv], hr.below.below⟩
  unfold endK at hk
  rcases hx with rfl | rfl
  · simp only at hk
    split at hk
    · cases hk
    · rename_i rs h1; cases hk; exact key rs h1 rfl _ (.inl rfl)
  · simp only at hk
    split at hk
    · cases hk
    · rename_i rs h1; cases hk; exact key rs h1 rfl _ (.inr rfl)
theorem kBig_ret {st : Row} {σ : SH} {o : Outs} (x : SX) (h : kBig x st σ = some o) : x = .ret ∧ endK Tryz.prog Tryz.f3.results.toList .ret st σ = some o := by
  cases x with
  | ret => exact ⟨rfl, h⟩
  | normal => cases h
  | exit id => cases h
theorem kPre_go {body : Code → BodyF} {st : Row} {σ : SH} {o : Outs} (x : SX) (h : kPre body x st σ = some o) : x = .normal ∧ body zeroM st σ (fun x st σ => match x with
    | .normal => @Bool.rec (fun _ => Option Outs) none (some []) (chkM slotM gam0 [] st σ)
    | _ => none) = some o := by
  cases x with
  | normal => exact ⟨rfl, h⟩
  | ret => cases h
  | exit id => cases h
theorem zero_go {st : Row} {σ : SH} {o : Outs} (x : SX) (h : (match x with
    | .normal => @Bool.rec (fun _ => Option Outs) none (some []) (chkM slotM gam0 [] st σ)
    | _ => none) = some o) : x = .normal ∧ chkM slotM gam0 [] st σ = true := by
  generalize chkM slotM gam0 [] st σ = c at h ⊢
  cases x with
  | normal => cases c with
    | false => cases h
    | true => exact ⟨rfl, rfl⟩
  | ret => cases h
  | exit id => cases h
/-- What is given at the law's begin. -/
noncomputable def firstG (AN AA : Option Addr) (nN cN nA cA : Nat) (i : Nat) : Value := roundG (fun i => if i = 0 then .slice AN nN cN else if i = 1 then .slice AA nA cA else if i = 2 then .int .i64 ((nN + nA : Nat) : Int) else .int .u8 (0 : Nat)) (.bool true) (.bool true) 0 0 nN nA (nN + nA) i
theorem firstG_given (AN AA : Option Addr) (nN cN nA cA : Nat) : GivenM AN AA nN cN nA cA (firstG AN AA nN cN nA cA) := by
  refine roundG_given ⟨fun i => ?_, by simp, by simp, fun j h3 hj => ⟨0, by omega, ?_⟩⟩ rfl rfl
  · (repeat' split) <;> rfl
  · rw [if_neg (by omega), if_neg (by omega), if_neg (by omega)]
theorem gam0_next {AN AA : Option Addr} {nN cN nA cA : Nat} {env : Env} (hg : GivenM AN AA nN cN nA cA env.given) : (∀ i, i < 83 → den env (gam0 i) = some (nextG env gam0 i)) ∧ GivenM AN AA nN cN nA cA (nextG env gam0) ∧ nextG env gam0 2 = .int .i64 ((0 : Nat) : Int) := by
  have key : ∀ i, i < 83 → ∃ v, den env (gam0 i) = some v ∧ v.oneCell' = true ∧ (i ≠ 2 → v = env.given i) := by
    intro i hi
    unfold gam0
    split
    · exact ⟨_, rfl, rfl, fun h => absurd ‹_› h⟩
    · exact ⟨_, rfl, hg.ones _, fun _ => rfl⟩
  have hn : ∀ i, i < 83 → den env (gam0 i) = some (nextG env gam0 i) := fun i hi => by
    obtain ⟨v, h1, _⟩ := key i hi
    unfold nextG; rw [if_pos hi, h1]; rfl
  have he : ∀ i, i < 83 → i ≠ 2 → nextG env gam0 i = env.given i := fun i hi h => by
    obtain ⟨v, h1, _, h2⟩ := key i hi
    rw [hn i hi] at h1
    rw [Option.some.inj h1]; exact h2 h
  refine ⟨hn, ⟨fun i => ?_, (he 0 (by omega) (by omega)).trans hg.g0, (he 1 (by omega) (by omega)).trans hg.g1, fun j h3 hj => by rw [he j hj (by omega)]; exact hg.mid j h3 hj⟩, ?_⟩
  · by_cases hi : i < 83
    · obtain ⟨v, h1, h2, _⟩ := key i hi
      rw [hn i hi] at h1
      rw [Option.some.inj h1]; exact h2
    · unfold nextG; rw [if_neg hi]; rfl
  · have := hn 2 (by omega); simp [gam0, den] at this; rw [← this]; rfl

set_option maxRecDepth 100000 in
theorem post_any {AN AA : Option Addr} {nN cN nA cA : Nat} {w : World} (hN : IntsAt w (fun b => b < w.heap.size) AN nN) (hA : IntsAt w (fun b => b < w.heap.size) AA nA) (hbig : ¬ 30 < nN) (n : Nat) (hn : ¬ n < nN) (hn2 : n ≤ nN) (a : Act) (W : World) (h : HeadM AN AA nN cN nA cA w slotP n a W) :
    postM.wp Tryz.prog (bodyPost Tryz.prog Tryz.f3 (RetM w)) a W := by
  obtain ⟨m, hm, env, hg, h2, hr, hf⟩ := h
  have hst := allRm m hm
  unfold stateR at hst
  have hstart : chkM slotP SV.opq m (rowOf slotP 0) (heapOf 1722 (heapM m)) = true := and_l (and_r hst)
  have hg1 := roundG_given (p1 := .bool true) (p2 := .bool true) (x1 := 0) (x2 := 0) (n := n) hg rfl rfl
  have hag : ∀ i, i < 83 → den env (SV.opq i) = some (roundG env.given (.bool true) (.bool true) 0 0 nN nA n i) := fun i hi => by
    simp only [den, roundG]; rw [if_pos hi]
  have hk : RoundM AN AA nN cN nA cA n false false false 0 0 w (fun b => b < w.heap.size) (roundG env.given (.bool true) (.bool true) 0 0 nN nA n) := by
    refine ⟨hg1.g0, hg1.g1, ?_, rfl, rfl, rfl, hg1.mid, by simp [hbig], by simp [hn], fun h => (by cases h), fun h => (by cases h), fun h => (by cases h), fun h => (by cases h)⟩
    unfold roundG; rw [if_pos (by omega)]; exact h2
  obtain ⟨hr1, hf1⟩ := anewM (K2 := knownM AN AA nN cN nA cA n false false false 0 0) hr hf hk hag hstart
  have hrun : finR m = true := and_l (and_r (and_r hst))
  unfold finR at hrun
  obtain ⟨l, hl, hall⟩ := allV_ok hrun
  have hco := @codeO_ok (knownM AN AA nN cN nA cA n false false false 0 0) Tryz.prog (baseOf w) followsM _ _ orcM_ok (oqM_ok _ _ _ _ _) _ (fun b => @summMC_ok (knownM AN AA nN cN nA cA n false false false 0 0) b) 60 postM
  refine hco _ _ _ _ hl (env.anew 1722 (roundG env.given (.bool true) (.bool true) 0 0 nN nA n)) a W hg1.ones hr1 hf1 _ ?_
  intro x st' σ' outs' hkk hsub env' a' W' hle hr' hf'
  cases x with
  | exit id => cases hkk
  | normal => exact @end_true (knownM AN AA nN cN nA cA n false false false 0 0) _ _ _ _ _ _ _ _ _ (.inl rfl) hall hsub hkk hr' hf'
  | ret => exact @end_true (knownM AN AA nN cN nA cA n false false false 0 0) _ _ _ _ _ _ _ _ _ (.inr rfl) hall hsub hkk hr' hf'

set_option maxRecDepth 100000 in
/-- RepoMarks answers true. -/
theorem repoMarks_any {AN AA : Option Addr} {nN cN nA cA : Nat} (w : World) (hml : MaxLenIs Tryz.prog w) (hN : IntsAt w (fun b => b < w.heap.size) AN nN) (hA : IntsAt w (fun b => b < w.heap.size) AA nA) :
    Calls Tryz.prog 3 #[.slice AN nN cN, .slice AA nA cA] w (RetM w) := by
  refine calls_of_wp Tryz.func3 body_some ?_
  rw [body_eq]
  have hg0 := firstG_given AN AA nN cN nA cA
  have hd : denL (env0 (firstG AN AA nN cN nA cA)) [.opq 0, .opq 1] = some [.slice AN nN cN, .slice AA nA cA] := by
    refine denL_mk ?_ (denL_mk ?_ rfl)
    · simp only [den]; exact congrArg some hg0.g0
    · simp only [den]; exact congrArg some hg0.g1
  have hf0 : FRel (env0 (firstG AN AA nN cN nA cA)) (rowOf [.opq 0, .opq 1] 165) { tmps := #[Value.slice AN nN cN, Value.slice AA nA cA] ++ Array.replicate (Tryz.f3.ntmps - #[Value.slice AN nN cN, Value.slice AA nA cA].size) undef, defers := [] } := by
    have := frel_args (m := 165) hd
    rw [Tryz.ntmps3]
    exact this
  have hk : ∀ big, big = decide (30 < nN) → RoundM AN AA nN cN nA cA (nN + nA) big false false 0 0 w (fun b => b < w.heap.size) (firstG AN AA nN cN nA cA) := fun big hb =>
    ⟨hg0.g0, hg0.g1, rfl, rfl, rfl, rfl, hg0.mid, hb, by simp, fun h => (by cases h), fun h => (by cases h), fun h => (by cases h), fun h => (by cases h)⟩
  by_cases hbig : 30 < nN
  · obtain ⟨l, hl, hall⟩ := allV_ok big_run
    have hrel := @rel0 (knownM AN AA nN cN nA cA (nN + nA) true false false 0 0) Tryz.prog (firstG AN AA nN cN nA cA) w hml (hk true (by simp [hbig]))
    refine @seqsB_ok (knownM AN AA nN cN nA cA (nN + nA) true false false 0 0) Tryz.prog (baseOf w) _ (fun c => @codeO_ok (knownM AN AA nN cN nA cA (nN + nA) true false false 0 0) Tryz.prog (baseOf w) followsM _ _ orcM_ok (oqM_ok _ _ _ _ _) _ (fun b => @summM_ok (knownM AN AA nN cN nA cA (nN + nA) true false false 0 0) b) 60 c) _ preM _ _ _ _ hl (env0 (firstG AN AA nN cN nA cA)) _ w hg0.ones hrel hf0 _ ?_
    intro x st' σ' outs' hkk hsub env' a' W' hle hr' hf'
    obtain ⟨rfl, hkk⟩ := kBig_ret x hkk
    exact @end_true (knownM AN AA nN cN nA cA (nN + nA) true false false 0 0) _ _ _ _ _ _ _ _ .ret (.inr rfl) hall hsub hkk hr' hf'
  · have hrel := @rel0 (knownM AN AA nN cN nA cA (nN + nA) false false false 0 0) Tryz.prog (firstG AN AA nN cN nA cA) w hml (hk false (by simp [hbig]))
    have hcode := fun c => @codeO_ok (knownM AN AA nN cN nA cA (nN + nA) false false false 0 0) Tryz.prog (baseOf w) followsM _ _ orcM_ok (oqM_ok _ _ _ _ _) _ (fun b => @summM_ok (knownM AN AA nN cN nA cA (nN + nA) false false false 0 0) b) 60 c
    refine @seqsB_ok (knownM AN AA nN cN nA cA (nN + nA) false false false 0 0) Tryz.prog (baseOf w) _ hcode _ preM _ _ _ _ (isE_ok pre_run) (env0 (firstG AN AA nN cN nA cA)) _ w hg0.ones hrel hf0 _ ?_
    intro x st' σ' outs' hkk hsub env' a' W' hle hr' hf'
    obtain ⟨rfl, hkk⟩ := kPre_go x hkk
    have hg' : GivenM AN AA nN cN nA cA env'.given := by rw [hle.given]; exact hg0
    refine wp_seq (wp_seq (hcode zeroM _ _ _ _ hkk env' a' W' hg'.ones hr' hf' _ ?_))
    intro x2 st2 σ2 outs2 hk2 _ env2 a2 W2 hle2 hr2 hf2
    obtain ⟨rfl, hc⟩ := zero_go x2 hk2
    have hg2 : GivenM AN AA nN cN nA cA env2.given := by rw [hle2.given]; exact hg'
    obtain ⟨k1, k2, k3⟩ := gam0_next hg2
    obtain ⟨hr3, hf3⟩ := anewM (K2 := knownAny) hr2 hf2 trivial k1 hc
    have hhead : HeadM AN AA nN cN nA cA w slotM 0 a2 W2 := ⟨[], by simp [statesM], _, k2, k3, hr3, hf3⟩
    refine wp_block (wp_loop_count (P := Tryz.prog) (fun k a W => ∃ n, n ≤ nN ∧ k = nN - n ∧ HeadM AN AA nN cN nA cA w slotM n a W) ?_ nN a2 W2 ⟨0, by omega, by omega, hhead⟩)
    rintro k a3 W3 ⟨n, hn, rfl, hh⟩
    refine round_any hN hA hbig n hn a3 W3 hh (fun hlt a4 W4 h4 => ?_) (fun hge a4 W4 h4 => ?_)
    · exact ⟨nN - (n + 1), by omega, n + 1, by omega, rfl, h4⟩
    · exact post_any hN hA hbig n hge hn a4 W4 h4
end Go.Proofs.YtmcclkdkbedpmabGreatDoor
