/-
  slices.AppendSeq(nil, keys) and slices.Collect(keys) for an iterator that gives ids; then slices.Collect(maps.Keys) of a known map.
-/
import Derived.Test.YtnlijlabkoefbaaGreatDoorKeyIC
import Derived.Test.YtnlijlabkoefbaaGreatDoorExec
import Derived.Test.YtnlijlabkoefbaaGreatDoorFrame
set_option linter.unusedVariables false
set_option linter.unusedSimpArgs false
namespace Go.Proofs.YtnlijlabkoefbaaGreatDoor
open Go Go.RowKit Go.Shelf Go.Maps

attribute [local go_sem] Oper.semAt_some

set_option maxRecDepth 100000 in
set_option maxHeartbeats 2000000 in
theorem appendSeq_in (F : Fence) (n : Nat) (h11 : F.fn 90) (hro : F.round = none) (hn : 2 ≤ n) (g : Nat) (lb : Array Value) (hFg : F.fn g) (eg : ∀ args w, (callFunc g args).run Tryz.prog w = .ok (.enter g args) w)
    (S : List IdK → Prop) (N : Nat) (hN : N ≤ maxLen) (hNb : N * 20 ≤ 140737488355328) (w : World) (hseq : SeqGives (α := IdK) F (n - 1) Tryz.prog g lb (fun k => .agg k.kc) S N w) :
    CallsIn F n Tryz.prog 90 #[.slice none 0 0, .func (.func g) #[] lb] w fun e w' => ∃ v ss, e = .returned v ∧ S ss ∧ w'.ownsRow w.heap.size 26 20 v ss.length (ss.flatMap keyCells) ∧ (v = .slice none 0 0 ↔ ss = []) ∧ Below w.heap.size w w' := by
  have h1 : 1 ≤ n := by omega
  refine callsIn_of_wp_marks Tryz.func90 rfl h11 ?_ hro
  simp only [Tryz.ntmps90, List.size_toArray, List.length_cons, List.length_nil, Nat.reduceAdd, Nat.reduceSub, Array.replicate_succ, Array.replicate_zero, List.push_toArray, List.append_toArray, List.nil_append, List.cons_append]
  gi_wp2
  refine wpIn_rangeFunc ?_
  intro fn hfn
  rw [hro]
  obtain ⟨W0, hW0⟩ : ∃ W0, w.alloc (.cells #[.slice none 0 0] 36) = W0 := ⟨_, rfl⟩
  have hs0 : W0.heap.size = w.heap.size + 1 := by rw [← hW0]; simp
  have hv0 : W0.heap[w.heap.size]? = some (.cells #[.slice none 0 0] 36 (0, 0)) := by rw [← hW0]; exact World.alloc_heap_new w _
  have hb0 : Below w.heap.size w W0 := by rw [← hW0]; exact (Below.refl _ w).alloc (Nat.le_refl _) _
  rw [hW0]
  obtain ⟨W1, hW1⟩ : ∃ W1, (W0.alloc (.deferred (some []))).alloc (.loop (apRec fn (.func (.func g) #[] lb) w.heap.size W0.heap.size .ready none)) = W1 := ⟨_, rfl⟩
  have hold : ∀ k, k < W0.heap.size → W1.heap[k]? = W0.heap[k]? := fun k hk => by
    rw [← hW1]; exact (Below.heap_alloc _ _ k (by simp; omega)).trans (Below.heap_alloc _ _ k hk)
  have hb1 : Below w.heap.size w W1 := by rw [← hW1]; exact (hb0.alloc hb0.size _).alloc (by have := hb0.size; simp; omega) _
  have hs1 : W1.heap.size = W0.heap.size + 2 := by rw [← hW1]; simp
  have hM : ApAt w fn (.func (.func g) #[] lb) w.heap.size (W0.heap.size + 1) W0.heap.size [] W1 :=
    ⟨⟨_, (hold w.heap.size (by omega)).trans hv0, ⟨rfl, .inl ⟨rfl, rfl⟩⟩, by simp⟩,
     by rw [← hW1]; have := World.alloc_heap_new (W0.alloc (.deferred (some []))) (.loop (apRec fn (.func (.func g) #[] lb) w.heap.size W0.heap.size .ready none)); rwa [World.size_alloc] at this,
     by rw [← hW1]; exact (Below.heap_alloc _ _ _ (by simp)).trans (World.alloc_heap_new W0 _), hb1⟩
  refine ⟨W0.heap.size + 1, [{ target := .collected W0.heap.size, args := #[] }], W1, { target := .fn (.func g) lb, args := #[.func (.yield (W0.heap.size + 1)) #[] #[]] }, W1, g,
    #[.func (.yield (W0.heap.size + 1)) #[] #[]] ++ lb, W1, ?_, ?_, ?_, ?_, fun _ => h1, ?_⟩
  · rw [← hW1]; exact run_enterLoop_outer _ _ _ _ _
  · simp [resolve, go_sem]
  · intro f' hf'; simp [Target.leads] at hf'; subst hf'; exact hFg
  · simp [invoke, go_sem, eg]
  · refine (hseq (W0.heap.size + 1) (ApAt w fn (.func (.func g) #[] lb) w.heap.size (W0.heap.size + 1) W0.heap.size) W1 hb1 (ap_abides _ _ _ _ _ _ _ hb1.size)
      (fun pre x W hJ hl => apYield F (n - 1 - 1) w fn hfn _ w.heap.size (W0.heap.size + 1) W0.heap.size (by omega) (by omega) (by omega) (Nat.le_refl _) (by omega) N hN hNb pre x W hJ hl) hM).mono ?_
    rintro e W2 ⟨⟨v0, rfl⟩, ss, hS, h2⟩
    obtain ⟨v, hv, hrow, hnil⟩ := h2.box
    have hend := run_endLoop (P := Tryz.prog) h2.L (by simp [apRec])
    obtain ⟨W3, hW3⟩ : ∃ W3, W2.putObj (W0.heap.size + 1) (.loop { apRec fn (.func (.func g) #[] lb) w.heap.size W0.heap.size .ready none with state := .exhausted }) = W3 := ⟨_, rfl⟩
    rw [hW3] at hend
    have hg3 : W2.grownBy W3 (some (W0.heap.size + 1)) := by rw [← hW3]; exact grownBy_putObj' _ _ _
    have hv3 : W3.heap[w.heap.size]? = some (.cells #[v] 36 (0, 0)) := by rw [← hW3]; exact (World.putObj_heap_other (by omega)).trans hv
    have hK3 : W3.heap[W0.heap.size]? = some (.deferred (some [])) := by rw [← hW3]; exact (World.putObj_heap_other (by omega)).trans h2.K
    have hrow3 := hrow.kept hg3 (ownsRow_ne_q hrow h2.L (fun cur e => by cases e))
    have hb3 : Below w.heap.size w W3 := h2.below.grown hg3 h2.below.size (fun k e => by cases e; omega)
    obtain ⟨hc3, hf3⟩ := cell_of_box_q hv3
    clear hW3
    refine ⟨none, W3, hend, ?_⟩
    gi_wp2
    rw [← hs0]
    refine ⟨by simp, .inl ⟨_, _, rfl, run_takeDeferred hK3, ?_⟩⟩
    refine ⟨_, results_tmp rfl _ _ _, v, ss, rfl, hS, ?_, hnil, hb3.grown (grownBy_putObj' _ _ _) hb3.size (fun k e => by cases e; omega)⟩
    have := hrow3.kept (grownBy_putObj' W3 W0.heap.size (.deferred none)) (ownsRow_ne_q hrow3 hK3 (fun cur e => by cases e))
    simpa using this

theorem collect_in (F : Fence) (n : Nat) (h8 : F.fn 59) (h11 : F.fn 90) (hro : F.round = none) (hn : 3 ≤ n) (g : Nat) (lb : Array Value) (hFg : F.fn g) (eg : ∀ args w, (callFunc g args).run Tryz.prog w = .ok (.enter g args) w)
    (S : List IdK → Prop) (N : Nat) (hN : N ≤ maxLen) (hNb : N * 20 ≤ 140737488355328) (w : World) (hseq : SeqGives (α := IdK) F (n - 1 - 1) Tryz.prog g lb (fun k => .agg k.kc) S N w) :
    CallsIn F n Tryz.prog 59 #[.func (.func g) #[] lb] w fun e w' => ∃ v ss, e = .returned v ∧ S ss ∧ w'.ownsRow w.heap.size 26 20 v ss.length (ss.flatMap keyCells) ∧ (v = .slice none 0 0 ↔ ss = []) ∧ Below w.heap.size w w' := by
  have h1 : 1 ≤ n := by omega
  refine callsIn_of_wp Tryz.func59 rfl h8 ?_ hro
  simp only [Tryz.ntmps59, List.size_toArray, List.length_cons, List.length_nil, Nat.reduceAdd, Nat.reduceSub, Array.replicate_succ, Array.replicate_zero, List.push_toArray, List.append_toArray, List.nil_append, List.cons_append]
  gi_wp2_with (gi_at_call 90; refine (appendSeq_in F (n - 1) h11 hro (by omega) g lb hFg eg S N hN hNb _ hseq).mono ?_; rintro e w' ⟨v, ss, rfl, hS, hrow, hnil, hb⟩)
  gi_wp2
  refine bodyPost_ret (results_tmp rfl _ _ _) rfl ?_
  exact ⟨v, ss, rfl, hS, hrow, hnil, hb⟩

theorem collect_known (w : World) (Bm b : Nat) (es : Array MapEntry) (hkey : ∀ e ∈ es.toList, ∃ kc : Array Value, e.key = .agg kc ∧ kc.size = 20 ∧ kc.all (·.oneCell') = true) (hborn : ∀ (i : Nat) (x : MapEntry), es[i]? = some x → x.born = i) (hsz : es.size ≤ 1099511627776) (hBm : Bm < w.heap.size)
    (hm : w.cell? ⟨Bm, 0, none⟩ = some (.map (some b))) (hown : w.heap[b]? = some (.map es es.size)) :
    Calls Tryz.prog 59 #[.func (.func 61) #[] #[.pointer (some ⟨Bm, 0, none⟩)]] w fun e w' => ∃ v ss, e = .returned v ∧ ((ss.map fun k => Value.agg k.kc).Perm (es.toList.map (·.key))) ∧ w'.ownsRow w.heap.size 26 20 v ss.length (ss.flatMap keyCells) ∧ (v = .slice none 0 0 ↔ ss = []) ∧ Below w.heap.size w w' :=
  callsIn_wide.1 (collect_in Fence.wide 3 trivial trivial rfl (Nat.le_refl _) _ _ trivial (enters_of Tryz.func61 (by kernel_rfl) rfl) (fun ss => (ss.map fun k => Value.agg k.kc).Perm (es.toList.map (·.key))) es.size (by unfold maxLen; omega) (by omega) w
    (keysI_gives Fence.wide 1 trivial rfl (Nat.le_refl _) Bm b es hkey hborn w hBm hm hown))

section
variable {P : Program} {w0 : Base} {env : Env} {σ : SH} {w : World}
/-- A block that a call has made. -/
theorem Rel.adopt {w' : World} {so : SO} {g c : Nat} (h : Rel P w0 env σ w) (hb : Below w.heap.size w w') (hg : w.heap.size ≤ g) (ho : ORel P (env.push σ.next g c) w' g c so) : Rel P w0 (env.push σ.next g c) (σ.push so) w' := by
  have hnew := Env.new env σ.next g c
  have hle := h.le_push g c
  have h' := h.world hb
  have key : ∀ n y, (σ.push so).get n = some y → (n = σ.next ∧ y = so) ∨ (n ≠ σ.next ∧ σ.get n = some y) := fun n y hy => SH.get_push hy
  refine ⟨h'.below, rfl, fun n hn => ?_, fun n y hy => ?_, fun n m y z x1 y1 hne hy hz hx1 hy1 => ?_⟩
  · have hn : σ.next + 1 ≤ n := hn
    rw [Env.push_ne _ _ _ (by omega)]; exact h.fresh n (by omega)
  · rcases key n y hy with ⟨rfl, rfl⟩ | ⟨hn, hy⟩
    · refine ⟨_, _, hnew, fun hk => ?_, ho⟩
      have := (h.below.block _ hk).1
      have := h.below.size
      omega
    · obtain ⟨b, c', h1, h2, h3⟩ := h'.obj n y hy
      exact ⟨b, c', hle.some n _ h1, h2, h3.mono hle rfl⟩
  · have old : ∀ k x, k ≠ σ.next → (∃ u, σ.get k = some u) → (env.push σ.next g c).blocks k = some x → x.1 < w.heap.size ∧ env.blocks k = some x := fun k x hk ⟨u, hu⟩ hx => by
      obtain ⟨b, c', h1, h2, h3⟩ := h.obj k u hu
      rw [Env.push_ne _ _ _ hk] at hx
      rw [hx] at h1; cases h1
      exact ⟨h3.lt, hx⟩
    rcases key n y hy with ⟨rfl, rfl⟩ | ⟨hn, hy'⟩ <;> rcases key m z hz with ⟨rfl, rfl⟩ | ⟨hm, hz'⟩
    · exact absurd rfl hne
    · have := (old m y1 hm ⟨_, hz'⟩ hy1).1
      rw [hnew] at hx1; cases hx1; simp only; omega
    · have := (old n x1 hn ⟨_, hy'⟩ hx1).1
      rw [hnew] at hy1; cases hy1; simp only; omega
    · exact h.apart n m y z x1 y1 hne hy' hz' (old n x1 hn ⟨_, hy'⟩ hx1).2 (old m y1 hm ⟨_, hz'⟩ hy1).2
end

def allInt : List SV → Bool
  | [] => true
  | .int _ _ :: r => allInt r
  | _ :: _ => false
theorem allInt_one {env : Env} : ∀ {l : List SV} {vs : List Value}, allInt l = true → denL env l = some vs → ∀ v ∈ vs, v.oneCell' = true := by
  intro l
  induction l with
  | nil => intro vs _ h; simp only [denL] at h; cases h; simp
  | cons x r ih =>
    intro vs ha h
    obtain ⟨v, us, h1, h2, rfl⟩ := denL_cons h
    cases x <;> simp only [allInt, Bool.false_eq_true] at ha
    simp only [den, Option.some.injEq] at h1; subst h1
    intro u hu
    rcases List.mem_cons.1 hu with rfl | hu
    · rfl
    · exact ih ha h2 u hu

end Go.Proofs.YtnlijlabkoefbaaGreatDoor
