/-
  The executor at work: closed calls whose value is written out.
-/
import Derived.Test.YthenjjonphoklaaGreatDoorSymGo
import Derived.KernelRfl
set_option linter.unusedVariables false
set_option linter.unusedSimpArgs false
namespace Go.Proofs.YthenjjonphoklaaGreatDoor
open Go Go.RowKit

variable {P : Program}

/-- One end, of this value. -/
noncomputable def isV (v : SV) (r : Option Outs) : Bool := match r with
  | some [(x, _)] => eqS x v
  | _ => false
theorem isV_ok {v : SV} {r : Option Outs} (h : isV v r = true) : ∃ σ, r = some [(v, σ)] := by
  unfold isV at h
  split at h
  · rename_i x σ
    exact ⟨σ, by rw [eqS_ok _ _ h]⟩
  · cases h

theorem exec_val (hm : P.follows .mixedOrders = true) {summ : CallF} (hsumm : ∀ b, CallSound P b summ) {d : Nat} {f : FuncId} {args : List SV} {v : SV} (h : isV v (exec P summ d f args sh0) = true) {given : Nat → Value} (ho : (env0 given).ones) {vs : List Value} (ha : denL (env0 given) args = some vs)
    {u : Value} (hu : ∀ env, den env v = some u) (w : World) (hml : MaxLenIs P w) : Calls P f vs.toArray w fun e w' => e = .returned u ∧ Below w.heap.size w w' := by
  obtain ⟨σ, hσ⟩ := isV_ok h
  refine (exec_closed hm hsumm hσ ho ha w hml).mono ?_
  rintro e w' ⟨o, hmem, env', x, rfl, hb, hd⟩
  rw [List.mem_singleton.1 hmem] at hd
  rw [hu] at hd; cases hd
  exact ⟨rfl, hb⟩

/-- A world of which one block is known. -/
def baseAt (w : World) (b : Nat) : Base := ⟨w, fun k => k < w.heap.size ∧ k ≠ b⟩
theorem okayAt {w : World} {b : Nat} (hml : MaxLenIs P w) (hb : ∀ g, P.globals.findIdx? (·.name == "internal/bytealg.MaxLen") = some g → g ≠ b) : Okay P (baseAt w b) := ⟨hml, fun g hg => ⟨hml.lt hg, hb g hg⟩⟩
theorem rel1 (given : Nat → Value) (w : World) {b : Nat} (hok : Okay P (baseAt w b)) {l : List SV} {vs : List Value} {e : TypeId} (hl : denL ((env0 given).push 0 b 0) l = some vs) (hb : w.heap[b]? = some (.cells vs.toArray e (0, 0))) :
    Rel P (baseAt w b) ((env0 given).push 0 b 0) (sh0.push (.cells l e true)) w := by
  have hget : ∀ n o, (sh0.push (.cells l e true)).get n = some o → n = 0 ∧ o = .cells l e true := fun n o h => by
    rcases SH.get_push h with ⟨h1, h2⟩ | ⟨_, h⟩
    · exact ⟨h1, h2⟩
    · have := (SH.get_lt h).2
      simp only [sh0, Tr.get_leaf] at this
      cases this
  refine ⟨hok, ⟨rfl, rfl, rfl, Nat.le_refl _, fun k hk => ⟨hk.1, rfl⟩⟩, rfl, fun n hn => ?_, fun n o h => ?_, fun n m o o' x y hne h h' => ?_⟩
  · have hn : 0 + 1 ≤ n := hn
    rw [Env.push_ne _ _ _ (by omega)]; rfl
  · obtain ⟨rfl, rfl⟩ := hget n o h
    refine ⟨b, 0, Env.new _ _ _ _, fun hk => hk.2 rfl, vs.toArray, e, (0, 0), vs, hb, thawed_zero _, hl, ?_, fun _ => ⟨by simpa using denL_length hl, rfl⟩, fun hx => by cases hx⟩
    rw [← denL_length hl]; simp
  · exact absurd ((hget n o h).1.trans (hget m o' h').1.symm) hne

theorem exec_at (hm : P.follows .mixedOrders = true) {summ : CallF} (hsumm : ∀ b, CallSound P b summ) {d : Nat} {f : FuncId} {args : List SV} {v : SV} {l : List SV} {e : TypeId} (h : isV v (exec P summ d f args (sh0.push (.cells l e true))) = true) {given : Nat → Value} (ho : (env0 given).ones) {b : Nat} {vs us : List Value}
    (ha : denL ((env0 given).push 0 b 0) args = some vs) (hl : denL ((env0 given).push 0 b 0) l = some us) (w : World) (hok : Okay P (baseAt w b)) (hb : w.heap[b]? = some (.cells us.toArray e (0, 0))) {u : Value} (hu : ∀ env, den env v = some u) :
    Calls P f vs.toArray w fun e w' => e = .returned u ∧ ∀ n, n ≤ b → n ≤ w.heap.size → Below n w w' := by
  obtain ⟨σ, hσ⟩ := isV_ok h
  refine (exec_ok hm hsumm d (baseAt w b) f args _ _ ((env0 given).push 0 b 0) w vs hσ (fun i => ho i) (rel1 given w hok hl hb) ha).mono ?_
  rintro e w' ⟨o, hmem, env', x, rfl, hle, hr, hd⟩
  rw [List.mem_singleton.1 hmem] at hd
  rw [hu] at hd; cases hd
  refine ⟨rfl, fun n hn hnw => ⟨hr.below.os, hr.below.tape, hr.below.output, hr.below.size, fun k hk => ?_⟩⟩
  exact (hr.below.block k ⟨by show k < w.heap.size; omega, by omega⟩).2
end Go.Proofs.YthenjjonphoklaaGreatDoor
